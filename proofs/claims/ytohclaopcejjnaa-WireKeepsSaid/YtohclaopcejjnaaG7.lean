/- Fields, places in slices and arrays, slices of slices, parts laid together, new slices: the plain reading's operations are the machine's. -/
import Derived.Test.YtohclaopcejjnaaG6
namespace Go.Proofs.Ytohclaopcejjnaa.G
open Go

section
variable {P : Program} {ι : Inj} {H : Heap} {w : World}

theorem sim_eqAgg (h : Rel ι H w) {t : TypeId} (hp : eqPlain P 20 t = true) (hg : P.eqGuardType P.depth t = false) (hag : isAggT P t = true) (neg : Bool) {a b a' b' : Array Value} {r : Bool} (ha : VR ι (.agg a) (.agg a')) (hb : VR ι (.agg b) (.agg b'))
    (h1 : a.size = P.cellsOf t) (h2 : b.size = P.cellsOf t) (hr : aggEq a.toList b.toList = some r) (ox oy : Operand) :
    Sim P ι H w (do eqGuard (if neg then .neq else .eql) t ox oy (.agg a') (.agg b'); binOp (if neg then .neq else .eql) t (.agg a') (.agg b')) (.bool (if neg then !r else r)) H := by
  have key : ∀ {x y x' y' : List Value} {r : Bool}, aggEq x y = some r → VRL ι x x' → VRL ι y y' → x' = x ∧ y' = y := by
    intro x
    induction x with
    | nil =>
      intro y x' y' r hr hx hy
      cases y with
      | nil =>
        cases x' with
        | nil => cases y' with | nil => exact ⟨rfl, rfl⟩ | cons _ _ => simp [VRL] at hy
        | cons _ _ => simp [VRL] at hx
      | cons _ _ => simp [aggEq] at hr
    | cons p x ih =>
      intro y x' y' r hr hx hy
      cases y with
      | nil => cases p <;> simp [aggEq] at hr
      | cons q y =>
        cases x' with
        | nil => simp [VRL] at hx
        | cons p' x' =>
          cases y' with
          | nil => simp [VRL] at hy
          | cons q' y' =>
            simp only [VRL] at hx hy
            cases p <;> cases q <;> simp [aggEq] at hr
            obtain ⟨_, hr⟩ := hr
            split at hr
            · rename_i r' hr'
              obtain ⟨rfl, rfl⟩ := ih hr' hx.2 hy.2
              have e1 := hx.1
              have e2 := hy.1
              simp only [VR] at e1 e2
              subst e1; subst e2
              exact ⟨rfl, rfl⟩
            · simp at hr
  simp only [VR] at ha hb
  obtain ⟨a2, ha1, ha2, _⟩ := ha
  obtain ⟨b2, hb1, hb2, _⟩ := hb
  cases ha1
  cases hb1
  obtain ⟨e1, e2⟩ := key hr (VRA_iff.1 ha2) (VRA_iff.1 hb2)
  obtain rfl : a' = a := by apply Array.ext'; exact e1
  obtain rfl : b' = b := by apply Array.ext'; exact e2
  have hrun := run_eqPlain (P := P) 20 t hp a'.toList b'.toList r (by simpa using h1) (by simpa using h2) hr 10000 w (by omega)
  simp only [mkV, hag, if_true, Array.toArray_toList] at hrun
  refine Sim.same h (c := .bool (if neg then !r else r)) ?_ (by simp [VR])
  rw [Sem.run_bind, run_eqGuard_agg w _ t ox oy a' b' hg]
  cases neg
  · simp only [Bool.false_eq_true, if_false, Result.andThen_ok]
    rw [run_eql_struct, hrun]
    rfl
  · simp only [if_true, Result.andThen_ok]
    rw [run_neq_struct, hrun]
    rfl

/-! ### fields and places -/
theorem sim_faddr (h : Rel ι H w) {s : TypeId} {fs : Array Field} {g : Field} (f : Nat) (hs : P.underlying s = some (.struct fs)) (hf : fs[f]? = some g) (hz : sized P g.type = true) {b o : Nat} {c : Value}
    (hx : VR ι (.pointer (some ⟨b, o, none⟩)) c) : Sim P ι H w (Instr.fieldAt s c f) (.pointer (some ⟨b, o + g.offset, none⟩)) H := by
  obtain ⟨i, z, d, hi, _, _, hpos, _⟩ := sized_spec hz
  simp only [VR] at hx
  obtain ⟨l, hb, _, rfl⟩ := hx
  refine Sim.same h (c := .pointer (some ⟨l.blk, l.δ + (o + g.offset), none⟩)) ?_ (by simp only [VR]; exact ⟨l, hb, trivial, rfl⟩)
  simp only [Instr.fieldAt, Sem.run_bind, run_underlying hs, Result.andThen_ok, hf, Instr.sureAddr, Sem.run_pure, fieldPlace, run_sizeOf hi]
  rw [if_neg (by omega)]
  simp [Addr.add_lit, Nat.add_assoc]

theorem sim_field (h : Rel ι H w) {s : TypeId} {fs : Array Field} {g : Field} (f : Nat) (hs : P.underlying s = some (.struct fs)) (hf : fs[f]? = some g) (hz : sized P g.type = true) {cs : Array Value} {c v : Value}
    (hx : VR ι (.agg cs) c)
    (hv : (if isAggT P g.type then some (Value.agg ((cs.toList.drop g.offset).take (P.cellsOf g.type)).toArray) else cs[g.offset]?) = some v) : Sim P ι H w (Instr.field s c f) v H := by
  obtain ⟨i, z, d, hi, _, hd, hpos, _, _, hc, _⟩ := sized_spec hz
  simp only [VR] at hx
  obtain ⟨a', rfl, ha, hone⟩ := hx
  have hl := VRA_iff.1 ha
  have hrun : (Instr.field s (.agg a') f).run P w = (part g.type a' g.offset).run P w := by
    simp only [Instr.field, Sem.run_bind, run_underlying hs, Result.andThen_ok, hf, asAgg, Sem.run_pure]
  by_cases hag : isAggT P g.type = true
  · rw [if_pos hag] at hv
    simp only [Option.some.injEq] at hv
    subst hv
    refine Sim.same h (c := .agg (a'.extract g.offset (g.offset + i.size))) ?_ ?_
    · rw [hrun]
      unfold part
      simp only [Sem.run_bind, run_isAgg hd, Result.andThen_ok, hag, if_true, run_sizeOf hi, Sem.run_pure]
    · rw [hc]
      simp only [VR]
      refine ⟨_, rfl, ?_, ?_⟩
      · rw [VRA_iff]
        have := (hl.drop g.offset).take i.size
        simpa [List.take_drop] using this
      · rw [List.all_eq_true] at hone ⊢
        intro x hx
        exact hone x (List.mem_of_mem_drop (List.mem_of_mem_take hx))
  · have hag' : isAggT P g.type = false := by simpa using hag
    rw [if_neg hag] at hv
    have hv' : cs.toList[g.offset]? = some v := by simpa using hv
    obtain ⟨u, hu, huv⟩ := hl.get hv'
    refine Sim.same h (c := u) ?_ huv
    rw [hrun]
    unfold part
    simp only [Sem.run_bind, run_isAgg hd, Result.andThen_ok, hag', Bool.false_eq_true, if_false]
    rw [show a'[g.offset]? = some u by simpa using hu]
    rfl

theorem asNat_spec {i ci : Value} {j : Nat} (h : asNat i = some j) (hi : VR ι i ci) : ∃ k, ci = .int k (j : Int) := by
  cases i <;> simp [asNat] at h
  simp only [VR] at hi
  subst hi
  rename_i k n
  exact ⟨k, by congr 1; omega⟩

theorem sim_iaddr (h : Rel ι H w) {t e : TypeId} (ht : P.underlying t = some (.slice e)) (hz : sized P e = true) {b o n k j : Nat} {i c ci : Value}
    (hx : VR ι (.slice (some ⟨b, o, none⟩) n k) c) (hi : VR ι i ci) (hj : asNat i = some j) (hlt : j < n) :
    Sim P ι H w (Instr.indexAt t c ci) (.pointer (some ⟨b, o + j * P.cellsOf e, none⟩)) H := by
  obtain ⟨inf, z, d, hinf, _, _, hpos, _, _, hc, _⟩ := sized_spec hz
  obtain ⟨kk, rfl⟩ := asNat_spec hj hi
  simp only [VR] at hx
  obtain ⟨l, hb, _, hx⟩ := hx
  have hcc : ∃ m, c = .slice (some ⟨l.blk, l.δ + o, none⟩) n m := by
    rcases hx with hx | hx | hx | hx
    · exact ⟨_, hx.2.2⟩
    · obtain ⟨_, k', _, _, _, _, rfl⟩ := hx; exact ⟨_, rfl⟩
    · omega
    · omega
  obtain ⟨m, rfl⟩ := hcc
  refine Sim.same h (c := .pointer (some ⟨l.blk, l.δ + (o + j * P.cellsOf e), none⟩)) ?_ (by simp only [VR]; exact ⟨l, hb, trivial, rfl⟩)
  simp [Instr.indexAt, asIntOf, run_underlying ht, run_sizeOf hinf, Addr.add_lit, hc, Nat.add_assoc, hlt]

theorem sim_iaddrA (h : Rel ι H w) {t e : TypeId} {n : Nat} (ht : P.underlying t = some (.array n e)) (hz : sized P e = true) {b o j : Nat} {i c ci : Value}
    (hx : VR ι (.pointer (some ⟨b, o, none⟩)) c) (hi : VR ι i ci) (hj : asNat i = some j) (hlt : j < n) :
    Sim P ι H w (Instr.indexAt t c ci) (.pointer (some ⟨b, o + j * P.cellsOf e, none⟩)) H := by
  obtain ⟨inf, z, d, hinf, _, _, hpos, _, _, hc, _⟩ := sized_spec hz
  obtain ⟨kk, rfl⟩ := asNat_spec hj hi
  simp only [VR] at hx
  obtain ⟨l, hb, _, rfl⟩ := hx
  refine Sim.same h (c := .pointer (some ⟨l.blk, l.δ + (o + j * P.cellsOf e), none⟩)) ?_ (by simp only [VR]; exact ⟨l, hb, trivial, rfl⟩)
  simp [Instr.indexAt, asIntOf, run_underlying ht, run_sizeOf hinf, Addr.add_lit, hc, Nat.add_assoc, Instr.sureAddr, hlt]

/-! ### slices of slices -/
theorem run_sliceBound {x cx : Value} {j y : Nat} (code : BoundsCode) (h : asNat x = some j) (hx : VR ι x cx) (hj : j ≤ y) (w : World) : (Instr.sliceBound cx y code).run P w = .ok j w := by
  obtain ⟨k, rfl⟩ := asNat_spec h hx
  have : (0 : Int) ≤ (j : Int) ∧ (j : Int) ≤ (y : Int) := by omega
  simp [Instr.sliceBound, asIntOf, this]

/-- Bounds that are alike. -/
def OR (ι : Inj) : Option Value → Option Value → Prop
  | none, none => True
  | some a, some b => VR ι a b
  | _, _ => False

theorem run_sliceBounds (isS : Bool) (len cap len' cap' : Nat) {lo hi mx lo' hi' mx' : Option Value} (h1 : OR ι lo lo') (h2 : OR ι hi hi') (h3 : OR ι mx mx') {l h m : Nat} (hno : (mx.isSome && hi.isNone) = false)
    (hm : bnd mx cap = some m) (hh : bnd hi len = some h) (hl : bnd lo 0 = some l) (b1 : l ≤ h) (b2 : h ≤ m) (b3 : m ≤ cap) (hcap : cap ≤ cap') (hlen : len' = len) (w : World) :
    (Instr.sliceBounds isS len' cap' lo' hi' mx').run P w = .ok (l, h, if mx = none then cap' else m) w := by
  subst hlen
  cases mx with
  | none =>
    cases mx' with
    | some _ => simp [OR] at h3
    | none =>
      cases hi with
      | none =>
        cases hi' with
        | some _ => simp [OR] at h2
        | none =>
          simp [bnd] at hm hh
          subst hm; subst hh
          cases lo with
          | none =>
            cases lo' with
            | some _ => simp [OR] at h1
            | none => simp [bnd] at hl; subst hl; simp [Instr.sliceBounds]
          | some lo =>
            cases lo' with
            | none => simp [OR] at h1
            | some lo' =>
              simp [bnd] at hl
              simp [Instr.sliceBounds, run_sliceBound (P := P) .sliceB hl h1 b1]
      | some hi =>
        cases hi' with
        | none => simp [OR] at h2
        | some hi' =>
          simp [bnd] at hm hh
          subst hm
          have e := fun c => run_sliceBound (P := P) (y := cap') c hh h2 (by omega) w
          cases lo with
          | none =>
            cases lo' with
            | some _ => simp [OR] at h1
            | none => simp [bnd] at hl; subst hl; simp [Instr.sliceBounds, e]
          | some lo =>
            cases lo' with
            | none => simp [OR] at h1
            | some lo' =>
              simp [bnd] at hl
              simp [Instr.sliceBounds, e, run_sliceBound (P := P) .sliceB hl h1 b1]
  | some mx =>
    cases mx' with
    | none => simp [OR] at h3
    | some mx' =>
      cases hi with
      | none => simp at hno
      | some hi =>
        cases hi' with
        | none => simp [OR] at h2
        | some hi' =>
          simp [bnd] at hm hh
          have e := fun c => run_sliceBound (P := P) (y := cap') c hm h3 (by omega) w
          have e2 := fun c => run_sliceBound (P := P) (y := m) c hh h2 b2 w
          cases lo with
          | none =>
            cases lo' with
            | some _ => simp [OR] at h1
            | none => simp [bnd] at hl; subst hl; simp [Instr.sliceBounds, e, e2]
          | some lo =>
            cases lo' with
            | none => simp [OR] at h1
            | some lo' =>
              simp [bnd] at hl
              simp [Instr.sliceBounds, e, e2, run_sliceBound (P := P) .slice3C hl h1 b1]

theorem aslice_spec {sz : Nat} {a : Option Addr} {len cap : Nat} {lo hi mx : Option Value} {v : Value} (he : aslice sz (.slice a len cap) lo hi mx = some v) :
    (mx.isSome && hi.isNone) = false ∧ ∃ m h l, bnd mx (capOf len cap) = some m ∧ bnd hi len = some h ∧ bnd lo 0 = some l ∧ l ≤ h ∧ h ≤ m ∧ m ≤ capOf len cap ∧
      ((a = none ∧ v = .slice none 0 0) ∨ ∃ b off, a = some ⟨b, off, none⟩ ∧
        ((UNK ≤ cap ∧ mx = none ∧ cap = UNK + sz ∧ v = .slice (some ⟨b, off + l * sz, none⟩) (h - l) cap) ∨
         (¬(UNK ≤ cap ∧ mx = none) ∧ m = l ∧ v = .slice (some ⟨b, off, none⟩) 0 0) ∨
         (¬(UNK ≤ cap ∧ mx = none) ∧ m ≠ l ∧ v = .slice (some ⟨b, off + l * sz, none⟩) (h - l) (m - l)))) := by
  unfold aslice at he
  simp only at he
  split at he
  · simp at he
  · rename_i hno
    refine ⟨by rw [Bool.eq_false_iff]; exact hno, ?_⟩
    split at he
    · rename_i m h l hm hh hl
      split at he
      · rename_i hb
        refine ⟨m, h, l, hm, hh, hl, hb.1, hb.2.1, hb.2.2, ?_⟩
        split at he
        · exact .inl ⟨rfl, by simpa using he.symm⟩
        · rename_i b off
          refine .inr ⟨b, off, rfl, ?_⟩
          split at he
          · rename_i hc
            split at he
            · exact .inl ⟨hc.1, hc.2, by assumption, by simpa using he.symm⟩
            · simp at he
          · rename_i hc
            split at he
            · exact .inr (.inl ⟨hc, by assumption, by simpa using he.symm⟩)
            · exact .inr (.inr ⟨hc, by assumption, by simpa using he.symm⟩)
        · simp at he
      · simp at he
    · simp at he

theorem bnd_or {ι : Inj} {o o' : Option Value} (h : OR ι o o') : o = none ↔ o' = none := by
  cases o <;> cases o' <;> simp_all [OR]

theorem sim_slice (h : Rel ι H w) {t e : TypeId} (ht : P.underlying t = some (.slice e)) (hz : sized P e = true) {s c v : Value} {lo hi mx lo' hi' mx' : Option Value} (hs : VR ι s c)
    (h1 : OR ι lo lo') (h2 : OR ι hi hi') (h3 : OR ι mx mx') (he : aslice (P.cellsOf e) s lo hi mx = some v) : Sim P ι H w (Instr.sliceAt t c lo' hi' mx') v H := by
  obtain ⟨inf, z, d, hinf, _, _, hpos, _, _, hc, _⟩ := sized_spec hz
  cases s with
  | slice a len cap =>
    obtain ⟨hno, m, hh, l, hm, hhi, hlo, b1, b2, b3, hv⟩ := aslice_spec he
    have hrun : ∀ (a' : Option Addr) (n' c' : Nat), c = .slice a' n' c' → (Instr.sliceAt t c lo' hi' mx').run P w =
        ((Instr.sliceBounds true n' c' lo' hi' mx').run P w).andThen fun r w' => .ok (.slice (if r.2.2 = r.1 then a' else a'.map (·.add (r.1 * inf.size))) (r.2.1 - r.1) (r.2.2 - r.1)) w' := by
      rintro a' n' c' rfl
      simp only [Instr.sliceAt, Instr.slice, Sem.run_bind, run_underlying ht, Result.andThen_ok, run_sizeOf hinf, Sem.run_pure]
    rcases hv with ⟨rfl, rfl⟩ | ⟨b, off, rfl, hv⟩
    · simp only [VR] at hs
      obtain ⟨rfl, rfl, rfl⟩ := hs
      have hb := run_sliceBounds (P := P) true 0 0 0 0 h1 h2 h3 hno (by simpa [capOf] using hm) hhi hlo b1 b2 (by simpa [capOf] using b3) (Nat.le_refl _) rfl w
      have hb3 : m ≤ 0 := by simpa [capOf] using b3
      obtain rfl : m = 0 := by omega
      obtain rfl : hh = 0 := by omega
      obtain rfl : l = 0 := by omega
      refine Sim.same h (c := .slice none 0 0) ?_ (by simp [VR])
      rw [hrun _ _ _ rfl, hb]
      simp
    · simp only [VR] at hs
      obtain ⟨loc, hloc, _, hs⟩ := hs
      rcases hs with ⟨hk, hn, rfl⟩ | ⟨zz, k', hk, hn, hk2, hroom, rfl⟩ | ⟨hk, hn, a', rfl⟩ | ⟨hk, hn, a', rfl⟩
      · -- a capacity that is known
        have hcu : ¬ UNK ≤ cap := by omega
        rw [capOf, if_neg hcu] at hm b3
        have hb := run_sliceBounds (P := P) true len cap len cap h1 h2 h3 hno hm hhi hlo b1 b2 b3 (Nat.le_refl _) rfl w
        have hmm : (if mx = none then cap else m) = m := by
          split
          · rename_i hmx; subst hmx; simpa [bnd] using hm
          · rfl
        rw [hmm] at hb
        rcases hv with ⟨hu, _⟩ | ⟨_, hml, rfl⟩ | ⟨_, hml, rfl⟩
        · exact absurd hu hcu
        · refine Sim.same h (c := .slice (some ⟨loc.blk, loc.δ + off, none⟩) 0 0) ?_ (by simp only [VR]; exact ⟨loc, hloc, trivial, .inl ⟨by simp [UNK], Nat.le_refl _, rfl⟩⟩)
          rw [hrun _ _ _ rfl, hb]
          simp [hml]
          omega
        · refine Sim.same h (c := .slice (some ⟨loc.blk, loc.δ + (off + l * P.cellsOf e), none⟩) (hh - l) (m - l)) ?_ (by simp only [VR]; exact ⟨loc, hloc, trivial, .inl ⟨by omega, by omega, rfl⟩⟩)
          rw [hrun _ _ _ rfl, hb]
          simp [hml, Addr.add_lit, hc, Nat.add_assoc]
      · -- a capacity that isn't
        have hcu : UNK ≤ cap := by omega
        rw [capOf, if_pos hcu] at hm b3
        have hb := run_sliceBounds (P := P) true len len len k' h1 h2 h3 hno hm hhi hlo b1 b2 b3 hn rfl w
        rcases hv with ⟨_, hmx, hcs, rfl⟩ | ⟨hnn, hml, rfl⟩ | ⟨hnn, hml, rfl⟩
        · rw [if_pos hmx] at hb
          have hzz : zz = P.cellsOf e := by omega
          subst hzz
          by_cases hkl : k' = l
          · refine Sim.same h (c := .slice (some ⟨loc.blk, loc.δ + off, none⟩) 0 0) ?_ ?_
            · rw [hrun _ _ _ rfl, hb]
              simp [hkl]
              omega
            · simp only [VR]
              exact ⟨loc, hloc, trivial, .inr (.inr (.inl ⟨hcu, by omega, _, rfl⟩))⟩
          · refine Sim.same h (c := .slice (some ⟨loc.blk, loc.δ + (off + l * P.cellsOf e), none⟩) (hh - l) (k' - l)) ?_ ?_
            · rw [hrun _ _ _ rfl, hb]
              simp [hkl, Addr.add_lit, hc, Nat.add_assoc]
            · simp only [VR]
              refine ⟨loc, hloc, trivial, .inr (.inl ⟨P.cellsOf e, k' - l, hcs, by omega, by omega, ?_, rfl⟩)⟩
              have : (k' - l) * P.cellsOf e + l * P.cellsOf e = k' * P.cellsOf e := by rw [← Nat.add_mul]; congr 1; omega
              omega
        · have hmx : mx ≠ none := fun e => hnn ⟨hcu, e⟩
          rw [if_neg hmx] at hb
          refine Sim.same h (c := .slice (some ⟨loc.blk, loc.δ + off, none⟩) 0 0) ?_ (by simp only [VR]; exact ⟨loc, hloc, trivial, .inl ⟨by simp [UNK], Nat.le_refl _, rfl⟩⟩)
          rw [hrun _ _ _ rfl, hb]
          simp [hml]
          omega
        · have hmx : mx ≠ none := fun e => hnn ⟨hcu, e⟩
          rw [if_neg hmx] at hb
          refine Sim.same h (c := .slice (some ⟨loc.blk, loc.δ + (off + l * P.cellsOf e), none⟩) (hh - l) (m - l)) ?_ ?_
          · rw [hrun _ _ _ rfl, hb]
            simp [hml, Addr.add_lit, hc, Nat.add_assoc]
          · simp only [VR]
            refine ⟨loc, hloc, trivial, .inl ⟨?_, by omega, rfl⟩⟩
            simp [UNK]
            omega
      · -- an empty one, somewhere
        rw [capOf, if_pos hk] at hm b3
        subst hn
        have hb := run_sliceBounds (P := P) true 0 0 0 0 h1 h2 h3 hno hm hhi hlo b1 b2 b3 (Nat.le_refl _) rfl w
        obtain rfl : m = 0 := by omega
        obtain rfl : hh = 0 := by omega
        obtain rfl : l = 0 := by omega
        refine Sim.same h (c := .slice (some a') 0 0) ?_ ?_
        · rw [hrun _ _ _ rfl, hb]
          simp
        · rcases hv with ⟨_, hmx, hcs, rfl⟩ | ⟨hnn, hml, rfl⟩ | ⟨hnn, hml, rfl⟩
          · simp only [VR]
            exact ⟨loc, hloc, trivial, .inr (.inr (.inl ⟨hk, by trivial, _, rfl⟩))⟩
          · simp only [VR]
            exact ⟨loc, hloc, trivial, .inr (.inr (.inr ⟨by trivial, by trivial, _, rfl⟩))⟩
          · exact absurd rfl hml
      · subst hk; subst hn
        have hcu : ¬ UNK ≤ 0 := by simp [UNK]
        rw [capOf, if_neg hcu] at hm b3
        have hb := run_sliceBounds (P := P) true 0 0 0 0 h1 h2 h3 hno hm hhi hlo b1 b2 b3 (Nat.le_refl _) rfl w
        obtain rfl : m = 0 := by omega
        obtain rfl : hh = 0 := by omega
        obtain rfl : l = 0 := by omega
        refine Sim.same h (c := .slice (some a') 0 0) ?_ ?_
        · rw [hrun _ _ _ rfl, hb]
          simp
        · rcases hv with ⟨hu, _⟩ | ⟨hnn, hml, rfl⟩ | ⟨hnn, hml, rfl⟩
          · exact absurd hu hcu
          · simp only [VR]
            exact ⟨loc, hloc, trivial, .inr (.inr (.inr ⟨by trivial, by trivial, _, rfl⟩))⟩
          · exact absurd rfl hml
  | _ => simp [aslice] at he

end
end Go.Proofs.Ytohclaopcejjnaa.G
