/- Every operation that is no call: what the plain reading comes to, the machine comes to. -/
import Derived.Test.YtohclaopcejjnaaG10
namespace Go.Proofs.Ytohclaopcejjnaa.G
open Go

section
variable {P : Program} {ι : Inj} {H : Heap} {w : World}

/-- The machine's operation comes to a value like this one, or to none where none is told. -/
def SimN (P : Program) (ι : Inj) (H : Heap) (w : World) (s : Sem Next) (v : Value) (H' : Heap) : Prop :=
  ∃ ι' w', Stp ι H w ι' H' w' ∧ ((∃ c, s.run P w = .ok (.value c) w' ∧ VR ι' v c) ∨ (s.run P w = .ok .skip w' ∧ v = undef))

theorem Sim.next {s : Sem Value} {v : Value} {H' : Heap} (h : Sim P ι H w s v H') : SimN P ι H w (do pure (.value (← s))) v H' := by
  obtain ⟨ι', c, w', h1, h2, h3⟩ := h
  exact ⟨ι', w', h3, .inl ⟨c, by simp [h1], h2⟩⟩
theorem SimN.now (h : Rel ι H w) {v c : Value} (hv : VR ι v c) : SimN P ι H w (pure (.value c)) v H := ⟨ι, w, .refl h, .inl ⟨c, rfl, hv⟩⟩

def isCall : SOp → Bool
  | .call .. | .callv .. => true
  | _ => false

theorem lift_some {o : Option Value} {v : Value} {H H' : Heap} (h : lift o H = some (v, H')) : o = some v ∧ H' = H := by
  unfold lift at h
  cases o with
  | none => simp at h
  | some x => simp at h; exact ⟨by rw [h.1], h.2.symm⟩

theorem OR_map {nt : Nat} {e : Env} {a : Act} (hE : EnvR ι nt e a) {o : Option Operand} (ho : o.all okOpd = true) : OR ι (o.map (G.ev e)) (o.map a.eval) := by
  cases o with
  | none => simp [OR]
  | some x => exact hE.ev (by simpa using ho)

theorem partsOK_of {place : Nat → Option (Nat × Nat)} {g : Nat × Operand → Option (Nat × Nat × Operand)} (hg : ∀ i x y, g (i, x) = some y → y.2.2 = x ∧ place i = some (y.1, y.2.1)) :
    ∀ {l : List (Nat × Operand)} {m : List (Nat × Nat × Operand)}, l.mapM g = some m → (l.all fun p => okOpd p.2) = true → PartsOK place l m
  | [], m, h, _ => by
    simp at h
    subst h
    simp [PartsOK]
  | (i, x) :: l, m, h, hok => by
    simp only [List.mapM_cons, Option.bind_eq_bind, Option.bind_eq_some_iff] at h
    obtain ⟨y, hy, ys, hys, h⟩ := h
    simp at h
    subst h
    simp only [List.all_cons, Bool.and_eq_true] at hok
    obtain ⟨o, s, z⟩ := y
    obtain ⟨h1, h2⟩ := hg i x _ hy
    simp only at h1 h2
    subst h1
    simp only [PartsOK]
    exact ⟨trivial, hok.1, h2, partsOK_of hg hys hok.2⟩

theorem partsOK_map (sz : Nat) : ∀ {l : List (Nat × Operand)}, (l.all fun p => okOpd p.2) = true → PartsOK (fun i => some (i * sz, sz)) l (l.map fun p => (p.1 * sz, sz, p.2))
  | [], _ => by simp [PartsOK]
  | (i, x) :: l, hok => by
    simp only [List.all_cons, Bool.and_eq_true] at hok
    simp only [List.map_cons, PartsOK]
    exact ⟨trivial, hok.1, trivial, partsOK_map sz hok.2⟩

theorem splice_one {cs vs : List Value} (off : Nat) (h1 : cs.all one = true) (h2 : vs.all one = true) : (splice cs off vs).all one = true := by
  rw [List.all_eq_true] at *
  intro x hx
  simp only [splice, List.append_assoc, List.mem_append] at hx
  rcases hx with hx | hx | hx
  · exact h1 x (List.mem_of_mem_take hx)
  · exact h2 x hx
  · exact h1 x (List.mem_of_mem_drop hx)
theorem fillL_one : ∀ (ps : List (Nat × Nat × Value)) (cells cs : List Value), cells.all one = true → fillL cells ps = some cs → cs.all one = true
  | [], cells, cs, h1, h => by simp [fillL] at h; subst h; exact h1
  | (o, s, v) :: ps, cells, cs, h1, h => by
    simp only [fillL] at h
    split at h
    · rename_i hc
      exact fillL_one ps _ cs (splice_one o h1 hc.2.2) h
    · simp at h
theorem zc_one {t : TypeId} (hz : sized P t = true) {ps : List (Nat × Nat × Value)} {cs : List Value} (h : fillL (zc P t) ps = some cs) : cs.all one = true := by
  obtain ⟨i, z, d, hi, hzz, _, _, _, hzp, _, _⟩ := sized_spec hz
  rw [zc_of hi hzz] at h
  exact fillL_one ps _ cs (plains_one hzp) h

set_option maxHeartbeats 1000000 in
theorem sim_exec (h : Rel ι H w) {nt : Nat} {e : Env} {a : Act} (hE : EnvR ι nt e a) {C : Ctx} (hC : C.P = P) {o : Oper} {so : SOp} (hc : compileOp P o.op = some so) (hnc : isCall so = false) {v : Value} {H' : Heap}
    (he : exec C e so H = some (v, H')) : SimN P ι H w (execOp a.eval o) v H' := by
  subst hC
  obtain ⟨dst, op, type, pos, after, guard⟩ := o
  simp only at hc
  unfold compileOp at hc
  split at hc
  · simp at hc
  rename_i hok
  simp only [Bool.not_eq_true, Bool.not_eq_false'] at hok
  cases op <;> simp only [Op.operands] at hok hc
  case move x =>
    simp at hc hok; subst hc
    simp only [exec] at he
    obtain ⟨h1, rfl⟩ := lift_some he
    simp at h1; subst h1
    exact SimN.now h (hE.ev hok)
  case assign x =>
    simp at hc hok; subst hc
    simp only [exec] at he
    obtain ⟨h1, rfl⟩ := lift_some he
    simp at h1; subst h1
    exact SimN.now h (hE.ev hok)
  case pick c x y =>
    simp at hc hok; subst hc
    simp only [exec] at he
    have hcv := hE.ev hok.1
    generalize hx : G.ev e c = vc at he hcv
    cases vc with
    | bool t =>
      simp only [VR] at hcv
      obtain ⟨h1, rfl⟩ := lift_some he
      simp at h1; subst h1
      refine ⟨ι, w, .refl h, .inl ⟨if t then a.eval x else a.eval y, by simp [execOp, hcv, asBool], ?_⟩⟩
      cases t
      · exact hE.ev hok.2.2
      · exact hE.ev hok.2.1
    | _ => simp [lift] at he
  case alloc t =>
    split at hc
    · rename_i hz
      simp at hc; subst hc
      obtain ⟨i, z, d, hi, hzz, _, hpos, hzs, hzp, hcz, hby⟩ := sized_spec hz
      simp only [exec] at he
      rw [zc_of hi hzz] at he
      refine Sim.next (sim_new_cells h t (VRL_plain hzp) he _ ?_)
      simp only [Instr.alloc, Sem.run_bind, run_zeroValue hi hzz, Result.andThen_ok, run_newVar, Sem.run_pure]
    · simp at hc
  case box t x =>
    split at hc
    · rename_i hz
      simp at hc hok; subst hc
      have hv := hE.ev hok
      simp only [exec] at he
      have h1 : (cellsL (G.ev e x)).all one = true := by
        unfold anew at he
        split at he
        · assumption
        · simp at he
      refine Sim.next (sim_new_cells h t (hv.cellsL h1) he _ ?_)
      simp only [Instr.box, Sem.run_bind, run_newVar, Result.andThen_ok, Sem.run_pure]
    · simp at hc
  case build t parts =>
    split at hc
    · simp at hc
    rename_i hz
    simp only [Bool.not_eq_true, Bool.not_eq_false'] at hz
    have hok' : (parts.toList.all fun p => okOpd p.2) = true := by
      simp only [List.all_eq_true] at hok ⊢
      intro p hp
      have hm : p.2 ∈ (parts.toList.map (·.2)).toArray := by simp only [List.mem_toArray, List.mem_map]; exact ⟨p, hp, rfl⟩
      exact Array.all_eq_true_iff_forall_mem.1 hok p.2 hm
    split at hc
    · rename_i fs ht
      split at hc
      · simp at hc
      rename_i hfs
      simp only [Bool.not_eq_true, Bool.not_eq_false'] at hfs
      simp only [Option.bind_eq_bind, Option.bind_eq_some_iff] at hc
      obtain ⟨ps, hps, hc⟩ := hc
      simp at hc; subst hc
      simp only [exec] at he
      obtain ⟨h1, rfl⟩ := lift_some he
      simp only [Option.map_eq_some_iff] at h1
      obtain ⟨cs, hcs, rfl⟩ := h1
      have hP : PartsOK (placesOf C.P fs) parts.toList ps := partsOK_of (fun i x y hy => by
        simp only [Option.bind_eq_some_iff] at hy
        obtain ⟨f, hf, hy⟩ := hy
        split at hy
        · simp at hy; subst hy
          exact ⟨rfl, by simp [placesOf, hf]⟩
        · simp at hy) hps hok'
      have hone := zc_one hz hcs
      exact Sim.next (sim_build h hE hz ht hfs hP hcs hone)
    · rename_i n el ht
      split at hc
      · rename_i hze
        simp at hc; subst hc
        simp only [exec] at he
        obtain ⟨h1, rfl⟩ := lift_some he
        simp only [Option.map_eq_some_iff] at h1
        obtain ⟨cs, hcs, rfl⟩ := h1
        have hone := zc_one hz hcs
        exact Sim.next (sim_buildA h hE hz hze ht (partsOK_map _ hok') hcs hone)
      · simp at hc
    · simp at hc
  case buildSlice t n parts =>
    have hok' : (parts.toList.all fun p => okOpd p.2) = true := by
      simp only [List.all_eq_true] at hok ⊢
      intro p hp
      have hm : p.2 ∈ (parts.toList.map (·.2)).toArray := by simp only [List.mem_toArray, List.mem_map]; exact ⟨p, hp, rfl⟩
      exact Array.all_eq_true_iff_forall_mem.1 hok p.2 hm
    split at hc
    · rename_i el ht
      split at hc
      · rename_i hcond
        simp only [Bool.and_eq_true, decide_eq_true_eq] at hcond
        simp at hc; subst hc
        simp only [exec] at he
        split at he
        · rename_i cs hcs
          split at he
          · rename_i hone
            simp only [Option.some.injEq, Prod.mk.injEq] at he
            obtain ⟨rfl, rfl⟩ := he
            exact Sim.next (sim_bslice h hE hcond.1 hcond.2 ht (partsOK_map _ hok') hcs hone)
          · simp at he
        · simp at he
      · simp at hc
    · simp at hc
  case load t x =>
    split at hc
    · rename_i hz
      simp at hc hok; subst hc
      exact Sim.next (sim_load h hz (hE.ev hok) he)
    · simp at hc
  case store t x y =>
    split at hc
    · rename_i hz
      simp at hc hok; subst hc
      obtain ⟨rfl, w', h1, h2⟩ := sim_store h hz (hE.ev hok.1) (hE.ev hok.2) he
      exact ⟨ι, w', h2, .inr ⟨by simp [execOp, h1], rfl⟩⟩
    · simp at hc
  case nilCheck x =>
    simp at hc hok; subst hc
    simp only [exec] at he
    have hv := hE.ev hok
    generalize hx : G.ev e x = vx at he hv
    cases vx with
    | pointer p =>
      cases p with
      | none => simp [lift] at he
      | some p =>
        obtain ⟨h1, rfl⟩ := lift_some he
        simp at h1; subst h1
        have hv2 := hv
        simp only [VR] at hv
        obtain ⟨l, _, _, hcx⟩ := hv
        refine ⟨ι, w, .refl h, .inl ⟨a.eval x, by simp [execOp, hcx], hv2⟩⟩
    | func f p q =>
      cases f with
      | func f =>
        obtain ⟨h1, rfl⟩ := lift_some he
        simp at h1; subst h1
        have hv2 := hv
        simp only [VR] at hv
        obtain ⟨p', q', hcx, _⟩ := hv
        refine ⟨ι, w, .refl h, .inl ⟨a.eval x, by simp [execOp, hcx], hv2⟩⟩
      | _ => simp [lift] at he
    | _ => simp [lift] at he
  case binOp op t x y yt =>
    simp at hok
    have hx := hE.ev hok.1
    have hy := hE.ev hok.2
    have nil : ∀ (neg : Bool) (k : NilKind), op = (if neg then .neq else .eql) → nilOf (C.P.underlying t) y = some k → so = .eqNil neg k x →
        SimN C.P ι H w (execOp a.eval { dst := dst, op := .binOp op t x y yt, type := type, pos := pos, after := after, guard := guard }) v H' := by
      intro neg k hop hn hso
      subst hso
      simp only [exec] at he
      obtain ⟨h1, rfl⟩ := lift_some he
      simp only [Option.map_eq_some_iff] at h1
      obtain ⟨b, hb, rfl⟩ := h1
      have := sim_eqNil (P := C.P) h hn hx hb a neg x y
      rw [← hop] at this
      exact Sim.next this
    have agg : ∀ (neg : Bool), op = (if neg then .neq else .eql) → (eqPlain C.P 20 t && !C.P.eqGuardType C.P.depth t && isAggT C.P t) = true → so = .eqAgg neg t x y →
        SimN C.P ι H w (execOp a.eval { dst := dst, op := .binOp op t x y yt, type := type, pos := pos, after := after, guard := guard }) v H' := by
      intro neg hop hcond hso
      subst hso
      simp only [Bool.and_eq_true, Bool.not_eq_true'] at hcond
      simp only [exec] at he
      generalize hvx : G.ev e x = vx at he hx
      generalize hvy : G.ev e y = vy at he hy
      cases vx <;> try (simp [lift] at he; done)
      cases vy <;> try (simp [lift] at he; done)
      rename_i p q
      simp only at he
      split at he
      · rename_i hsz
        obtain ⟨h1, rfl⟩ := lift_some he
        simp only [Option.map_eq_some_iff] at h1
        obtain ⟨b, hb, rfl⟩ := h1
        have hx2 := hx
        have hy2 := hy
        simp only [VR] at hx hy
        obtain ⟨p', hp, _⟩ := hx
        obtain ⟨q', hq, _⟩ := hy
        rw [hp] at hx2
        rw [hq] at hy2
        have := sim_eqAgg (P := C.P) h hcond.1.1 hcond.1.2 hcond.2 neg hx2 hy2 hsz.1 hsz.2 hb x y
        rw [← hop] at this
        rw [← hp, ← hq] at this
        exact Sim.next this
      · simp [lift] at he
    have bools : ∀ (neg : Bool), op = (if neg then .neq else .eql) → C.P.underlying t = some .bool → so = .eqB neg x y →
        SimN C.P ι H w (execOp a.eval { dst := dst, op := .binOp op t x y yt, type := type, pos := pos, after := after, guard := guard }) v H' := by
      intro neg hop ht hso
      subst hso
      simp only [exec] at he
      generalize hvx : G.ev e x = vx at he hx
      generalize hvy : G.ev e y = vy at he hy
      cases vx <;> try (simp [lift] at he; done)
      cases vy <;> try (simp [lift] at he; done)
      simp only [VR] at hx hy
      obtain ⟨h1, rfl⟩ := lift_some he
      simp at h1; subst h1
      rename_i p q
      have := sim_eqB (P := C.P) h ht neg p q x y
      rw [← hop, ← hx, ← hy] at this
      cases neg <;> exact Sim.next (by simpa using this)
    have strs : ∀ (neg : Bool), op = (if neg then .neq else .eql) → so = .eqS neg x y →
        SimN C.P ι H w (execOp a.eval { dst := dst, op := .binOp op t x y yt, type := type, pos := pos, after := after, guard := guard }) v H' := by
      intro neg hop hso
      subst hso
      simp only [exec] at he
      generalize hvx : G.ev e x = vx at he hx
      generalize hvy : G.ev e y = vy at he hy
      cases vx <;> try (simp [lift] at he; done)
      cases vy <;> try (simp [lift] at he; done)
      simp only [VR] at hx hy
      obtain ⟨h1, rfl⟩ := lift_some he
      simp at h1; subst h1
      rename_i p q
      have := sim_eqS (P := C.P) h t neg p q x y
      rw [← hop, ← hx, ← hy] at this
      cases neg <;> exact Sim.next (by simpa using this)
    split at hc
    · simp at hc; subst hc
      simp only [exec] at he
      obtain ⟨h1, rfl⟩ := lift_some he
      exact Sim.next (sim_bin h t x y hx hy h1)
    · rename_i ht; simp at hc; exact bools false rfl ht hc.symm
    · rename_i ht; simp at hc; exact bools true rfl ht hc.symm
    · simp at hc; exact strs false rfl hc.symm
    · simp at hc; exact strs true rfl hc.symm
    · split at hc
      · rename_i hcond; simp at hc; exact agg false rfl hcond hc.symm
      · simp at hc
    · split at hc
      · rename_i hcond; simp at hc; exact agg false rfl hcond hc.symm
      · simp at hc
    · split at hc
      · rename_i hcond; simp at hc; exact agg true rfl hcond hc.symm
      · simp at hc
    · split at hc
      · rename_i hcond; simp at hc; exact agg true rfl hcond hc.symm
      · simp at hc
    · split at hc
      · rename_i k hk; simp at hc; exact nil false k rfl hk hc.symm
      · simp at hc
    · split at hc
      · rename_i k hk; simp at hc; exact nil true k rfl hk hc.symm
      · simp at hc
    · simp at hc
  case unOp op t x =>
    simp at hc hok; subst hc
    simp only [exec] at he
    obtain ⟨h1, rfl⟩ := lift_some he
    obtain ⟨g1, g2⟩ := aun_spec (P := C.P) (w := w) h1 (hE.ev hok)
    exact Sim.next (Sim.same h g1 g2)
  case convert s d x =>
    split at hc
    · rename_i k1 k hs hd
      simp at hc hok; subst hc
      simp only [exec] at he
      have hv := hE.ev hok
      generalize hx : G.ev e x = vx at he hv
      cases vx with
      | int k2 n =>
        simp only [VR] at hv
        obtain ⟨h1, rfl⟩ := lift_some he
        simp at h1; subst h1
        refine Sim.next (Sim.same h (c := .int k (k.wrap n)) ?_ (by simp [VR]))
        simp [convert, hv, run_underlying hs, run_underlying hd, Conv.intToInt]
      | _ => simp [lift] at he
    · simp at hc
  case makeFunc f p q =>
    simp at hc; subst hc
    simp only [exec] at he
    obtain ⟨h1, rfl⟩ := lift_some he
    simp at h1; subst h1
    have hok2 : p.toList.all okOpd = true ∧ q.toList.all okOpd = true := by
      simp only [Array.all_append, Bool.and_eq_true] at hok
      simpa using hok
    refine SimN.now h (c := .func f (p.map a.eval) (q.map a.eval)) ?_
    simp only [VR]
    refine ⟨_, _, rfl, ?_, ?_⟩
    · rw [VRA_iff]; simpa using hE.evs hok2.1
    · rw [VRA_iff]; simpa using hE.evs hok2.2
  case makeSlice t l c =>
    split at hc
    · rename_i el ht
      split at hc
      · rename_i hz
        simp at hc hok; subst hc
        simp only [exec] at he
        split at he
        · rename_i n m hn hm
          split at he
          · rename_i hcond
            simp only [Option.some.injEq, Prod.mk.injEq] at he
            obtain ⟨rfl, rfl⟩ := he
            exact Sim.next (sim_mkslice h hz ht (hE.ev hok.1) (hE.ev hok.2) hn hm hcond.1 hcond.2.1)
          · simp at he
        · simp at he
      · simp at hc
    · simp at hc
  case slice t x lo hi mx =>
    have hok2 : okOpd x = true ∧ lo.all okOpd = true ∧ hi.all okOpd = true ∧ mx.all okOpd = true := by
      simp only [Array.all_append, Bool.and_eq_true] at hok
      refine ⟨by simpa using hok.1.1.1, ?_, ?_, ?_⟩
      · cases lo <;> simp_all
      · cases hi <;> simp_all
      · cases mx <;> simp_all
    split at hc
    · rename_i el ht
      split at hc
      · rename_i hz
        simp at hc; subst hc
        simp only [exec] at he
        obtain ⟨h1, rfl⟩ := lift_some he
        exact Sim.next (sim_slice h ht hz (hE.ev hok2.1) (OR_map hE hok2.2.1) (OR_map hE hok2.2.2.1) (OR_map hE hok2.2.2.2) h1)
      · simp at hc
    · rename_i n el ht
      split at hc
      · rename_i hz
        simp at hc; subst hc
        simp only [exec] at he
        have hv := hE.ev hok2.1
        generalize hx : G.ev e x = vx at he hv
        cases vx with
        | pointer p =>
          cases p with
          | none => simp [lift] at he
          | some p =>
            simp only at he
            split at he
            · rename_i hun
              obtain ⟨h1, rfl⟩ := lift_some he
              exact Sim.next (sim_sliceArr h ht hz hv hun (OR_map hE hok2.2.1) (OR_map hE hok2.2.2.1) (OR_map hE hok2.2.2.2) h1)
            · simp [lift] at he
        | _ => simp [lift] at he
      · simp at hc
    · simp at hc
  case fieldAddr s x f =>
    split at hc
    · rename_i fs hs
      split at hc
      · rename_i g hf
        split at hc
        · rename_i hz
          simp at hc hok; subst hc
          simp only [exec] at he
          have hv := hE.ev hok
          generalize hx : G.ev e x = vx at he hv
          split at he
          · rename_i b o
            obtain ⟨h1, rfl⟩ := lift_some he
            simp at h1; subst h1
            exact Sim.next (sim_faddr h f hs hf hz hv)
          · simp [lift] at he
        · simp at hc
      · simp at hc
    · simp at hc
  case field s x f =>
    split at hc
    · rename_i fs hs
      split at hc
      · rename_i g hf
        split at hc
        · rename_i hz
          simp at hc hok; subst hc
          simp only [exec] at he
          have hv := hE.ev hok
          generalize hx : G.ev e x = vx at he hv
          cases vx with
          | agg cs =>
            simp only at he
            split at he
            · have hh : H' = H ∧ (if isAggT C.P g.type then some (Value.agg ((cs.toList.drop g.offset).take (C.P.cellsOf g.type)).toArray) else cs[g.offset]?) = some v := by
                by_cases hag : isAggT C.P g.type = true
                · rw [if_pos hag] at he ⊢
                  obtain ⟨h1, rfl⟩ := lift_some he
                  exact ⟨rfl, h1⟩
                · rw [if_neg hag] at he ⊢
                  obtain ⟨h1, rfl⟩ := lift_some he
                  exact ⟨rfl, h1⟩
              obtain ⟨rfl, hh⟩ := hh
              exact Sim.next (sim_field h f hs hf hz hv hh)
            · simp [lift] at he
          | _ => simp [lift] at he
        · simp at hc
      · simp at hc
    · simp at hc
  case indexAddr t x i =>
    split at hc
    · rename_i el ht
      split at hc
      · rename_i hz
        simp at hc hok; subst hc
        simp only [exec] at he
        have hv := hE.ev hok.1
        have hi := hE.ev hok.2
        obtain ⟨h1, rfl⟩ := lift_some he
        generalize hx : G.ev e x = vx at h1 hv
        unfold aiaddr at h1
        split at h1
        · split at h1
          · rename_i hj
            split at h1
            · rename_i hlt
              simp at h1; subst h1
              exact Sim.next (sim_iaddr h ht hz hv hi hj hlt)
            · simp at h1
          · simp at h1
        · simp at h1
      · simp at hc
    · rename_i n el ht
      split at hc
      · rename_i hz
        simp at hc hok; subst hc
        simp only [exec] at he
        have hv := hE.ev hok.1
        have hi := hE.ev hok.2
        obtain ⟨h1, rfl⟩ := lift_some he
        generalize hx : G.ev e x = vx at h1 hv
        unfold aiaddrA at h1
        split at h1
        · split at h1
          · rename_i hj
            split at h1
            · rename_i hlt
              simp at h1; subst h1
              exact Sim.next (sim_iaddrA h ht hz hv hi hj hlt)
            · simp at h1
          · simp at h1
        · simp at h1
      · simp at hc
    · simp at hc
  case extract x i =>
    simp at hc hok; subst hc
    simp only [exec] at he
    have hv := hE.ev hok
    generalize hx : G.ev e x = vx at he hv
    cases vx with
    | tuple vs =>
      obtain ⟨h1, rfl⟩ := lift_some he
      simp only [VR] at hv
      rcases hv with rfl | ⟨a', hcx, hr⟩
      · simp at h1
      · have h2 : vs.toList[i]? = some v := by simpa using h1
        obtain ⟨u, hu, huv⟩ := (VRA_iff.1 hr).get h2
        have hu2 : a'[i]? = some u := by simpa using hu
        refine Sim.next (Sim.same h (c := u) ?_ huv)
        simp [Instr.extract, hcx, hu2]
    | _ => simp [lift] at he
  case call c =>
    obtain ⟨callee, args, ats⟩ := c
    have hargs : args.toList.all okOpd = true := by
      simp only [Call.operands, Array.all_append, Bool.and_eq_true] at hok
      simpa using hok.2
    have hev := hE.evs hargs
    simp only at hc
    split at hc
    · simp at hc; subst hc; simp [isCall] at hnc
    · simp at hc; subst hc; simp [isCall] at hnc
    · -- len
      split at hc
      · rename_i x t hx ht0
        obtain rfl : args = #[x] := by apply Array.ext'; simpa using hx
        obtain rfl : ats = #[t] := by apply Array.ext'; simpa using ht0
        simp at hargs
        have hv := hE.ev hargs
        split at hc
        · rename_i el ht
          simp at hc; subst hc
          simp only [exec] at he
          generalize hx2 : G.ev e x = vx at he hv
          cases vx with
          | slice p n k =>
            simp only [Bool.false_eq_true, if_false] at he
            obtain ⟨h1, rfl⟩ := lift_some he
            simp at h1; subst h1
            obtain ⟨a', c', hcx, _⟩ := VR_slice_less (Nat.le_refl n) hv
            have hm : (#[x] : Array Operand).map a.eval = #[a.eval x] := by simp
            have hr := Sim.next (Sim.same (P := C.P) h (s := Builtin.len_ #[t] type #[a.eval x]) (v := .int .i64 n) (c := .int .i64 n) ?_ (by simp [VR]))
            · rw [← hm] at hr
              exact hr
            simp [Builtin.len_, hcx, run_underlying ht, goInt]
          | _ => simp [lift] at he
        · rename_i ht
          simp at hc; subst hc
          simp only [exec] at he
          generalize hx2 : G.ev e x = vx at he hv
          cases vx with
          | string s =>
            simp only [if_true] at he
            obtain ⟨h1, rfl⟩ := lift_some he
            simp at h1; subst h1
            simp only [VR] at hv
            have hm : (#[x] : Array Operand).map a.eval = #[a.eval x] := by simp
            have hr := Sim.next (Sim.same (P := C.P) h (s := Builtin.len_ #[t] type #[a.eval x]) (v := .int .i64 s.size) (c := .int .i64 s.size) ?_ (by simp [VR]))
            · rw [← hm] at hr
              exact hr
            simp [Builtin.len_, hv, run_underlying ht, goInt]
          | _ => simp [lift] at he
        · simp at hc
      · simp at hc
    · simp at hc; subst hc
      simp only [exec] at he
      obtain ⟨h1, rfl⟩ := lift_some he
      have := sim_minmax (P := C.P) h false hev h1 type ats
      have hm : (args.toList.map a.eval).toArray = args.map a.eval := by rw [← Array.toList_map, Array.toArray_toList]
      rw [hm] at this
      exact Sim.next this
    · simp at hc; subst hc
      simp only [exec] at he
      obtain ⟨h1, rfl⟩ := lift_some he
      have := sim_minmax (P := C.P) h true hev h1 type ats
      have hm : (args.toList.map a.eval).toArray = args.map a.eval := by rw [← Array.toList_map, Array.toArray_toList]
      rw [hm] at this
      exact Sim.next this
    · -- append
      split at hc
      · rename_i s x t u hx ht0
        obtain rfl : args = #[s, x] := by apply Array.ext'; simpa using hx
        obtain rfl : ats = #[t, u] := by apply Array.ext'; simpa using ht0
        simp at hargs
        split at hc
        · rename_i el ht htu
          split at hc
          · rename_i hz
            simp at hc; subst hc
            obtain rfl : t = u := by simpa using htu
            have hr := Sim.next (sim_append (ty := type) h ht hz (hE.ev hargs.1) (hE.ev hargs.2) he)
            have hm : (#[s, x] : Array Operand).map a.eval = #[a.eval s, a.eval x] := by simp
            rw [← hm] at hr
            exact hr
          · simp at hc
        · simp at hc
      · simp at hc
    · -- copy
      split at hc
      · rename_i s x t u hx ht0
        obtain rfl : args = #[s, x] := by apply Array.ext'; simpa using hx
        obtain rfl : ats = #[t, u] := by apply Array.ext'; simpa using ht0
        simp at hargs
        split at hc
        · rename_i el ht _
          split at hc
          · rename_i hz
            simp at hc; subst hc
            have hr := Sim.next (sim_copy (u := u) (ty := type) h ht hz (hE.ev hargs.1) (hE.ev hargs.2) he)
            have hm : (#[s, x] : Array Operand).map a.eval = #[a.eval s, a.eval x] := by simp
            rw [← hm] at hr
            exact hr
          · simp at hc
        · simp at hc
      · simp at hc
    · -- clear
      split at hc
      · rename_i x t hx ht0
        obtain rfl : args = #[x] := by apply Array.ext'; simpa using hx
        obtain rfl : ats = #[t] := by apply Array.ext'; simpa using ht0
        simp at hargs
        split at hc
        · rename_i el ht
          split at hc
          · rename_i hz
            simp at hc; subst hc
            have hr := Sim.next (sim_clearS (ty := type) h ht hz (hE.ev hargs) he)
            have hm : (#[x] : Array Operand).map a.eval = #[a.eval x] := by simp
            rw [← hm] at hr
            exact hr
          · simp at hc
        · simp at hc
      · simp at hc
    · simp at hc
  all_goals simp at hc

end
end Go.Proofs.Ytohclaopcejjnaa.G
