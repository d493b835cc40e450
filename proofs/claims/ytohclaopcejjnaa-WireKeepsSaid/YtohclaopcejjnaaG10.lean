/- New slices of many cells, copies, clearing, min and max; then: every operation that is no call, in one. -/
import Derived.Test.YtohclaopcejjnaaG9
namespace Go.Proofs.Ytohclaopcejjnaa.G
open Go

section
variable {P : Program} {ι : Inj} {H : Heap} {w : World}

theorem run_mkslice {t el : TypeId} (hz : sized P el = true) (ht : P.underlying t = some (.slice el)) {l c cl cc : Value} {n m : Nat} (hl : VR ι l cl) (hc : VR ι c cc) (hn : asNat l = some n) (hm : asNat c = some m)
    (hle : n ≤ m) (hf : fits m (P.bytesOf el) = true) : m < UNK ∧ VRL ι (reps m (zc P el)) (reps m (zc P el)) ∧ (reps m (zc P el)).all one = true ∧ (Instr.makeSlice t cl cc).run P w = .ok (.slice (some ⟨w.heap.size, 0, none⟩) n m) (w.alloc (.cells (reps m (zc P el)).toArray el)) := by
  obtain ⟨i, z, d, hi, hzz, _, hpos, hzs, hzp, hcz, hby⟩ := sized_spec hz
  obtain ⟨k1, rfl⟩ := asNat_spec hn hl
  obtain ⟨k2, rfl⟩ := asNat_spec hm hc
  simp only [fits, Bool.and_eq_true, decide_eq_true_eq] at hf
  rw [hby] at hf
  have w1 : IntKind.i64.wrap (n : Int) = n := by simp [IntKind.wrap, IntKind.bits, IntKind.signed]; omega
  have w2 : IntKind.i64.wrap (m : Int) = m := by simp [IntKind.wrap, IntKind.bits, IntKind.signed]; omega
  have hzr := zeros_reps z.cells m
  have hinit : ((Array.range (m * i.size)).map fun j => z.cells[j % z.cells.size]!) = (reps m z.cells.toList).toArray := by
    rw [hzs] at hzr
    apply Array.ext'
    rw [hzs, hzr]
  have hnt : ¬ ((i.bytes : Int) * (m : Int) > 2 ^ 48) := by
    have e : (i.bytes : Int) * (m : Int) = ((m * i.bytes : Nat) : Int) := by rw [Int.natCast_mul, Int.mul_comm]
    rw [e]
    have : (2 : Int) ^ 48 = 281474976710656 := by decide
    rw [this]
    omega
  rw [zc_of hi hzz]
  have hun : m < UNK := by simp [UNK]; omega
  refine ⟨hun, VRL_plain (reps_all m _ _ hzp), plains_one (reps_all m _ _ hzp), ?_⟩
  have hneg1 : ¬ ((m : Int) < 0) := by omega
  have hneg2 : ¬ ((n : Int) < 0) := by omega
  have hneg3 : ¬ ((n : Int) > (m : Int)) := by omega
  simp only [Instr.makeSlice, Sem.run_bind, run_underlying ht, Result.andThen_ok, asInt, asIntOf, Sem.run_pure, run_typeInfo hi, w1, w2]
  rw [if_neg (by simp [hneg1, hneg2, hneg3]; simpa using hnt)]
  simp only [Sem.run_bind, run_askRoom, Result.andThen_ok, run_sizeOf hi]
  rw [Sem.run_ite]
  split
  · rename_i h0
    have hm0 : m = 0 := by
      rcases Nat.mul_eq_zero.1 h0 with h | h
      · simpa using h
      · omega
    subst hm0
    have hinit0 : ((Array.range ((((0 : Nat) : Int).toNat) * i.size)).map fun j => (#[] : Array Value)[j % (#[] : Array Value).size]!) = (reps 0 z.cells.toList).toArray := by simp [reps]
    simp only [Sem.run_bind, Sem.run_pure, Result.andThen_ok]
    rw [hinit0]
    rfl
  · simp only [Sem.run_bind, run_zeroValue hi hzz, Sem.run_pure, Result.andThen_ok, Int.toNat_natCast]
    rw [hinit]
    rfl

theorem sim_mkslice (h : Rel ι H w) {t el : TypeId} (hz : sized P el = true) (ht : P.underlying t = some (.slice el)) {l c cl cc : Value} {n m : Nat} (hl : VR ι l cl) (hc : VR ι c cc) (hn : asNat l = some n) (hm : asNat c = some m)
    (hle : n ≤ m) (hf : fits m (P.bytesOf el) = true) : Sim P ι H w (Instr.makeSlice t cl cc) (.slice (some ⟨H.size, 0, none⟩) n m) (H.push (.cells (reps m (zc P el)) false)) := by
  obtain ⟨hun, hv, h1, hr⟩ := run_mkslice (P := P) (w := w) hz ht hl hc hn hm hle hf
  have hst := Stp.allocCells h (reps m (zc P el)) (reps m (zc P el)).toArray el h1 (by simp) (fun i v hv2 => by
    obtain ⟨u, h2, h3⟩ := hv.get hv2
    exact ⟨u, by simpa using h2, h3⟩)
  refine ⟨_, .slice (some ⟨w.heap.size, 0, none⟩) n m, _, hr, ?_, hst⟩
  simp only [VR]
  exact ⟨_, ext_new _ _, trivial, .inl ⟨hun, hle, rfl⟩⟩

theorem VR_slice_less {a : Option Addr} {n k c : Nat} {u : Value} (hk : k ≤ n) (h : VR ι (.slice a n c) u) : ∃ a' c', u = .slice a' n c' ∧ (a = none → a' = none ∧ n = 0 ∧ c' = 0) ∧ VR ι (.slice a k (if a = none then 0 else c)) (.slice a' k c') := by
  cases a with
  | none =>
    simp only [VR] at h
    obtain ⟨rfl, rfl, rfl⟩ := h
    obtain rfl : k = 0 := by omega
    exact ⟨none, 0, rfl, fun _ => ⟨rfl, rfl, rfl⟩, by simp [VR]⟩
  | some a =>
    simp only [VR] at h
    obtain ⟨l, hl, hs, h⟩ := h
    rcases h with ⟨h1, h2, rfl⟩ | ⟨z, k', h1, h2, h3, h4, rfl⟩ | ⟨h1, rfl, a', rfl⟩ | ⟨h1, rfl, a', rfl⟩
    · exact ⟨_, _, rfl, by simp, by simp only [VR]; exact ⟨l, hl, hs, .inl ⟨by simpa using h1, by simp; omega, by simp⟩⟩⟩
    · exact ⟨_, _, rfl, by simp, by simp only [VR]; exact ⟨l, hl, hs, .inr (.inl ⟨z, k', by simpa using h1, by omega, h3, h4, rfl⟩)⟩⟩
    · obtain rfl : k = 0 := by omega
      exact ⟨_, _, rfl, by simp, by simp only [VR]; exact ⟨l, hl, hs, .inr (.inr (.inl ⟨by simpa using h1, trivial, a', rfl⟩))⟩⟩
    · obtain rfl : k = 0 := by omega
      exact ⟨_, _, rfl, by simp, by simp only [VR]; exact ⟨l, hl, hs, .inr (.inr (.inr ⟨by simpa using h1, trivial, a', rfl⟩))⟩⟩

theorem sim_copy (h : Rel ι H w) {t u ty e : TypeId} (ht : P.underlying t = some (.slice e)) (hz : sized P e = true) {d s cd cs v : Value} {H' : Heap} (hd : VR ι d cd) (hs : VR ι s cs)
    (he : acopy (P.cellsOf e) d s H = some (v, H')) : Sim P ι H w (Builtin.copy_ #[t, u] ty #[cd, cs]) v H' := by
  obtain ⟨i, z, dd, hi, hzz, _, hpos, hzs, hzp, hc, hby⟩ := sized_spec hz
  rw [hc] at he
  unfold acopy at he
  split at he
  case h_2 => simp at he
  rename_i base dl dc a n c
  obtain ⟨a', c', rfl, ha0, hs'⟩ := VR_slice_less (Nat.min_le_left n dl) hs
  have hdd : ∃ b' m', cd = .slice b' dl m' ∧ (0 < dl → ∀ b off, base = some ⟨b, off, none⟩ → ∃ l, ι b = some l ∧ b' = some ⟨l.blk, l.δ + off, none⟩) := by
    cases base with
    | none =>
      simp only [VR] at hd
      obtain ⟨rfl, rfl, rfl⟩ := hd
      exact ⟨_, _, rfl, by simp⟩
    | some b =>
      simp only [VR] at hd
      obtain ⟨l, hl, _, hd⟩ := hd
      rcases hd with ⟨_, _, rfl⟩ | ⟨z, k', _, _, _, _, rfl⟩ | ⟨_, rfl, a2, rfl⟩ | ⟨_, rfl, a2, rfl⟩
      · exact ⟨_, _, rfl, fun _ b2 off hb => by cases hb; exact ⟨l, hl, rfl⟩⟩
      · exact ⟨_, _, rfl, fun _ b2 off hb => by cases hb; exact ⟨l, hl, rfl⟩⟩
      · exact ⟨_, _, rfl, by simp⟩
      · exact ⟨_, _, rfl, by simp⟩
  obtain ⟨b', m', rfl, hdb⟩ := hdd
  split at he
  · rename_i h0
    simp at he
    obtain ⟨rfl, rfl⟩ := he
    refine Sim.same h (c := .int .i64 0) ?_ (by simp [VR])
    have hf : ∀ w : World, (Builtin.firstCells i.size 0 (.slice a' n c')).run P w = .ok #[] w := fun w => by cases a' <;> simp [Builtin.firstCells, loadCells, loadCellsFrom]
    have h0' : Nat.min n dl = 0 := h0
    cases b' <;> simp [Builtin.copy_, run_underlying ht, Builtin.lenOf, run_sizeOf hi, h0', hf, storeCells, goInt]
  · rename_i h0
    split at he
    · rename_i vs b off hvs
      split at he
      · rename_i H2 hw
        simp only [Option.some.injEq, Prod.mk.injEq] at he
        obtain ⟨rfl, rfl⟩ := he
        have hna : a ≠ none := fun e => by
          have := ha0 e
          omega
        rw [if_neg hna] at hs'
        obtain ⟨us, u1, u2, u3, u4⟩ := sliceCells_rel h hs' hvs (n := min n dl) rfl
        obtain ⟨l, hl, rfl⟩ := hdb (by omega) b off rfl
        obtain ⟨g1, g2⟩ := run_wr (P := P) h hl hw u1
        have hf : (Builtin.firstCells i.size (Nat.min n dl) (.slice a' n c')).run P w = .ok us.toArray w := by
          rcases u4 with ⟨e1, e2, e3⟩ | ⟨a2, k, e1, e2⟩
          · exact absurd e2 h0
          · simp only [Value.slice.injEq] at e1
            obtain ⟨rfl, _, _⟩ := e1
            exact run_firstCells_some (P := P) w i.size (Nat.min n dl) a2 n c' us u3 e2
        refine ⟨ι, .int .i64 (min n dl : Nat), _, ?_, by simp [VR], g2⟩
        simp [Builtin.copy_, run_underlying ht, Builtin.lenOf, run_sizeOf hi, hf, g1, goInt]
      · simp at he
    · simp at he

theorem sim_clearS (h : Rel ι H w) {t ty e : TypeId} (ht : P.underlying t = some (.slice e)) (hz : sized P e = true) {x cx v : Value} {H' : Heap} (hx : VR ι x cx)
    (he : aclearS (zc P e) x H = some (v, H')) : Sim P ι H w (Builtin.clear_ #[t] ty #[cx]) v H' := by
  obtain ⟨i, z, dd, hi, hzz, _, hpos, hzs, hzp, hc, hby⟩ := sized_spec hz
  rw [zc_of hi hzz] at he
  cases x with
  | slice a n k =>
    simp only [aclearS] at he
    split at he
    · rename_i h0
      subst h0
      simp at he
      obtain ⟨rfl, rfl⟩ := he
      obtain ⟨a', c', rfl, _, _⟩ := VR_slice_less (Nat.le_refl 0) hx
      refine Sim.same h (c := .tuple #[]) ?_ (by simp [VR])
      cases a' <;> simp [Builtin.clear_, run_underlying ht]
    · rename_i hne
      split at he
      · rename_i b off
        split at he
        · rename_i H2 hw
          simp only [Option.some.injEq, Prod.mk.injEq] at he
          obtain ⟨rfl, rfl⟩ := he
          simp only [VR] at hx
          obtain ⟨l, hl, _, hx⟩ := hx
          have hcx : ∃ m, cx = .slice (some ⟨l.blk, l.δ + off, none⟩) n m := by
            rcases hx with ⟨_, _, rfl⟩ | ⟨z, k', _, _, _, _, rfl⟩ | ⟨_, e0, _⟩ | ⟨_, e0, _⟩
            · exact ⟨_, rfl⟩
            · exact ⟨_, rfl⟩
            · exact absurd e0 hne
            · exact absurd e0 hne
          obtain ⟨m, rfl⟩ := hcx
          obtain ⟨g1, g2⟩ := run_wr (P := P) h hl hw (VRL_plain (reps_all n _ _ hzp))
          refine ⟨ι, .tuple #[], _, ?_, by simp [VR], g2⟩
          have hzr : (Builtin.zeroCells z.cells n).toList = reps n z.cells.toList := zeros_reps z.cells n
          simp [Builtin.clear_, run_underlying ht, hne, run_zeroValue hi hzz, hzr, g1]
        · simp at he
      · simp at he
  | _ => simp [aclearS] at he

theorem minF_spec (mx : Bool) : ∀ (l : List Value) (k : IntKind) (n : Int) (v : Value), minF mx (.int k n) l = some v → (∃ r, v = .int k r) ∧ (l.foldlM (m := Sem) (if mx then Builtin.max2 else Builtin.min2) (.int k n)).run P w = .ok v w
  | [], k, n, v, h => by simp [minF] at h; subst h; exact ⟨⟨n, rfl⟩, by simp⟩
  | y :: l, k, n, v, h => by
    unfold minF at h
    cases y <;> simp [min2] at h
    rename_i k2 b
    split at h
    · rename_i z hz
      split at hz
      · rename_i hk
        simp at hz
        subst hz
        obtain ⟨h1, h2⟩ := minF_spec mx l k _ v h
        refine ⟨h1, ?_⟩
        cases mx <;> simp [List.foldlM_cons, Builtin.min2, Builtin.max2] at h2 ⊢ <;> exact h2
      · simp at hz
    · simp at h

theorem VRL_ints : ∀ {l m : List Value} {x v : Value} {mx : Bool}, VRL ι l m → minF mx x l = some v → m = l
  | [], [], _, _, _, _, _ => rfl
  | [], _ :: _, _, _, _, h, _ => by simp [VRL] at h
  | _ :: _, [], _, _, _, h, _ => by simp [VRL] at h
  | a :: l, b :: m, x, v, mx, h, hm => by
    simp only [VRL] at h
    unfold minF at hm
    split at hm
    · rename_i z hz
      have := VRL_ints h.2 hm
      subst this
      cases x <;> cases a <;> simp [min2] at hz
      have := h.1
      simp only [VR] at this
      subst this
      rfl
    · simp at hm

theorem sim_minmax (h : Rel ι H w) (mx : Bool) {l m : List Value} {v : Value} (hl : VRL ι l m) (he : minI mx l = some v) (ty : TypeId) (at_ : Array TypeId) :
    Sim P ι H w ((if mx then Builtin.max_ else Builtin.min_) at_ ty m.toArray) v H := by
  unfold minI at he
  split at he
  · simp at he
  · rename_i k a r
    cases m with
    | nil => simp [VRL] at hl
    | cons b m =>
      simp only [VRL] at hl
      have h1 := hl.1
      simp only [VR] at h1
      subst h1
      obtain rfl := VRL_ints hl.2 he
      obtain ⟨⟨q, rfl⟩, h2⟩ := minF_spec (P := P) (w := w) mx m k a v he
      refine Sim.same h (c := .int k q) ?_ (by simp [VR])
      cases mx <;> simpa [Builtin.min_, Builtin.max_] using h2
  · simp at he

end
end Go.Proofs.Ytohclaopcejjnaa.G
