/- How a plain heap stands to the machine's memory: which block is which, values alike but for the blocks' numbers and for capacities that aren't known. -/
import Derived.Test.YtohclaopcejjnaaG2
import Derived.Laws.AppendOwn
import Derived.Laws.IdiomCopy
namespace Go.Proofs.Ytohclaopcejjnaa.G
open Go

/-- Where a block lies: the machine's block, from which cell on, how many cells that block has. -/
structure Loc where
  blk : Nat
  δ : Nat
  tot : Nat
abbrev Inj := Nat → Option Loc

mutual
def VR (ι : Inj) : Value → Value → Prop
  | .bool a, c => c = .bool a
  | .int k a, c => c = .int k a
  | .float k a, c => c = .float k a
  | .complex k a b, c => c = .complex k a b
  | .string s, c => c = .string s
  | .pointer none, c => c = .pointer none
  | .pointer (some a), c => ∃ l, ι a.block = some l ∧ a.spot = none ∧ c = .pointer (some ⟨l.blk, l.δ + a.off, none⟩)
  | .slice none n k, c => n = 0 ∧ k = 0 ∧ c = .slice none 0 0
  | .slice (some a) n k, c => ∃ l, ι a.block = some l ∧ a.spot = none ∧
      ((k < UNK ∧ n ≤ k ∧ c = .slice (some ⟨l.blk, l.δ + a.off, none⟩) n k) ∨
       (∃ z k', k = UNK + z ∧ n ≤ k' ∧ k' ≤ 9223372036854775807 ∧ l.δ + a.off + k' * z ≤ l.tot ∧ c = .slice (some ⟨l.blk, l.δ + a.off, none⟩) n k') ∨
       (UNK ≤ k ∧ n = 0 ∧ ∃ a', c = .slice (some a') 0 0) ∨
       (k = 0 ∧ n = 0 ∧ ∃ a', c = .slice (some a') 0 0))
  | .map none, c => c = .map none
  | .map (some b), c => ∃ l, ι b = some l ∧ c = .map (some l.blk)
  | .chan none, c => c = .chan none
  | .chan (some _), c => c = undef
  | .func f a b, c => ∃ a' b', c = .func f a' b' ∧ VRA ι a a' ∧ VRA ι b b'
  | .nilFunc, c => c = .nilFunc
  | .iface t v, c => ∃ v', c = .iface t v' ∧ VR ι v v'
  | .nilIface, c => c = .nilIface
  | .agg a, c => ∃ a', c = .agg a' ∧ VRA ι a a' ∧ a.toList.all one = true
  | .tuple a, c => a = #[] ∨ ∃ a', c = .tuple a' ∧ VRA ι a a'
def VRA (ι : Inj) : Array Value → Array Value → Prop
  | ⟨a⟩, ⟨b⟩ => VRL ι a b
def VRL (ι : Inj) : List Value → List Value → Prop
  | [], [] => True
  | a :: x, b :: y => VR ι a b ∧ VRL ι x y
  | _, _ => False
end

def Le (ι ι' : Inj) : Prop := ∀ b l, ι b = some l → ι' b = some l
theorem Le.refl (ι : Inj) : Le ι ι := fun _ _ h => h
theorem Le.trans {a b c : Inj} (h : Le a b) (k : Le b c) : Le a c := fun x l hx => k x l (h x l hx)

theorem VR_undef (ι : Inj) (c : Value) : VR ι undef c := by simp [undef, VR]

mutual
theorem VR.mono {ι ι' : Inj} (hl : Le ι ι') : (v c : Value) → VR ι v c → VR ι' v c
  | .bool _, _, h | .int _ _, _, h | .float _ _, _, h | .complex _ _ _, _, h | .string _, _, h | .nilFunc, _, h | .nilIface, _, h | .chan none, _, h | .chan (some _), _, h => by simpa [VR] using h
  | .pointer none, _, h | .map none, _, h | .slice none _ _, _, h => by simpa [VR] using h
  | .pointer (some a), c, h => by
    simp only [VR] at h ⊢
    obtain ⟨l, h1, h2⟩ := h
    exact ⟨l, hl _ _ h1, h2⟩
  | .slice (some a) n k, c, h => by
    simp only [VR] at h ⊢
    obtain ⟨l, h1, h2⟩ := h
    exact ⟨l, hl _ _ h1, h2⟩
  | .map (some b), c, h => by
    simp only [VR] at h ⊢
    obtain ⟨l, h1, h2⟩ := h
    exact ⟨l, hl _ _ h1, h2⟩
  | .func f a b, c, h => by
    simp only [VR] at h ⊢
    obtain ⟨a', b', h1, h2, h3⟩ := h
    exact ⟨a', b', h1, VRA.mono hl a a' h2, VRA.mono hl b b' h3⟩
  | .iface t v, c, h => by
    simp only [VR] at h ⊢
    obtain ⟨v', h1, h2⟩ := h
    exact ⟨v', h1, VR.mono hl v v' h2⟩
  | .agg a, c, h => by
    simp only [VR] at h ⊢
    obtain ⟨a', h1, h2, h3⟩ := h
    exact ⟨a', h1, VRA.mono hl a a' h2, h3⟩
  | .tuple a, c, h => by
    simp only [VR] at h ⊢
    rcases h with h | ⟨a', h1, h2⟩
    · exact .inl h
    · exact .inr ⟨a', h1, VRA.mono hl a a' h2⟩
theorem VRA.mono {ι ι' : Inj} (hl : Le ι ι') : (a c : Array Value) → VRA ι a c → VRA ι' a c
  | ⟨a⟩, ⟨c⟩, h => by
    simp only [VRA] at h ⊢
    exact VRL.mono hl a c h
theorem VRL.mono {ι ι' : Inj} (hl : Le ι ι') : (a c : List Value) → VRL ι a c → VRL ι' a c
  | [], [], _ => by simp [VRL]
  | [], _ :: _, h => by simp [VRL] at h
  | _ :: _, [], h => by simp [VRL] at h
  | a :: x, b :: y, h => by
    simp only [VRL] at h ⊢
    exact ⟨VR.mono hl a b h.1, VRL.mono hl x y h.2⟩
end

/-! ### lists of values -/
section lists
variable {ι : Inj}
theorem VRL.length : ∀ {a c : List Value}, VRL ι a c → a.length = c.length
  | [], [], _ => rfl
  | [], _ :: _, h => by simp [VRL] at h
  | _ :: _, [], h => by simp [VRL] at h
  | _ :: x, _ :: y, h => by simp only [VRL] at h; simp [VRL.length h.2]
theorem VRL.get : ∀ {a c : List Value} {i : Nat} {v : Value}, VRL ι a c → a[i]? = some v → ∃ u, c[i]? = some u ∧ VR ι v u
  | [], [], _, _, _, hi => by simp at hi
  | [], _ :: _, _, _, h, _ => by simp [VRL] at h
  | _ :: _, [], _, _, h, _ => by simp [VRL] at h
  | a :: x, b :: y, 0, v, h, hi => by
    simp only [VRL] at h
    simp at hi
    subst hi
    exact ⟨b, rfl, h.1⟩
  | a :: x, b :: y, i + 1, v, h, hi => by
    simp only [VRL] at h
    simpa using VRL.get (i := i) h.2 (by simpa using hi)
theorem VRL.of_get : ∀ {a c : List Value}, a.length = c.length → (∀ (i : Nat) v u, a[i]? = some v → c[i]? = some u → VR ι v u) → VRL ι a c
  | [], [], _, _ => by simp [VRL]
  | [], _ :: _, h, _ => by simp at h
  | _ :: _, [], h, _ => by simp at h
  | a :: x, b :: y, h, hg => by
    simp only [VRL]
    exact ⟨hg 0 a b rfl rfl, VRL.of_get (by simpa using h) fun i v u hv hu => hg (i + 1) v u (by simpa using hv) (by simpa using hu)⟩
theorem VRL.append {a b c d : List Value} (h : VRL ι a c) (k : VRL ι b d) : VRL ι (a ++ b) (c ++ d) := by
  induction a generalizing c with
  | nil =>
    cases c with
    | nil => simpa using k
    | cons _ _ => simp [VRL] at h
  | cons x a ih =>
    cases c with
    | nil => simp [VRL] at h
    | cons y c =>
      simp only [VRL] at h
      simp only [List.cons_append, VRL]
      exact ⟨h.1, ih h.2⟩
theorem VRL.take {a c : List Value} (h : VRL ι a c) (n : Nat) : VRL ι (a.take n) (c.take n) := by
  refine .of_get (by simp [h.length]) fun i v u hv hu => ?_
  rw [List.getElem?_take] at hv hu
  split at hv <;> simp_all
  obtain ⟨w, hw, hr⟩ := h.get hv
  rw [hu] at hw
  cases hw
  exact hr
theorem VRL.drop {a c : List Value} (h : VRL ι a c) (n : Nat) : VRL ι (a.drop n) (c.drop n) := by
  refine .of_get (by simp [h.length]) fun i v u hv hu => ?_
  rw [List.getElem?_drop] at hv hu
  obtain ⟨w, hw, hr⟩ := h.get hv
  rw [hu] at hw
  cases hw
  exact hr
theorem VRA_iff {a c : Array Value} : VRA ι a c ↔ VRL ι a.toList c.toList := by
  cases a; cases c; simp [VRA]
end lists

theorem VR.one {ι : Inj} {v c : Value} (h : VR ι v c) (h1 : one v = true) : c.oneCell' = true := by
  cases v with
  | pointer a => cases a <;> simp [VR] at h <;> (try obtain ⟨l, _, _, rfl⟩ := h) <;> (try subst h) <;> rfl
  | slice a n k =>
    cases a with
    | none => simp [VR] at h; rw [h.2.2]; rfl
    | some a =>
      simp only [VR] at h
      obtain ⟨l, _, _, h | h | h | h⟩ := h
      · rw [h.2.2]; rfl
      · obtain ⟨_, k', _, _, _, _, rfl⟩ := h; rfl
      · obtain ⟨_, _, a', rfl⟩ := h; rfl
      · obtain ⟨_, _, a', rfl⟩ := h; rfl
  | map a => cases a <;> simp [VR] at h <;> (try obtain ⟨l, _, rfl⟩ := h) <;> (try subst h) <;> rfl
  | chan a => cases a <;> simp [VR, G.one] at h h1; subst h; rfl
  | func f a b => simp only [VR] at h; obtain ⟨a', b', rfl, _⟩ := h; rfl
  | iface t v => simp only [VR] at h; obtain ⟨v', rfl, _⟩ := h; rfl
  | agg a => simp [G.one] at h1
  | tuple a => simp [G.one] at h1
  | _ => simp [VR] at h; subst h; rfl

theorem VRL.ones {ι : Inj} {a c : List Value} (h : VRL ι a c) (h1 : a.all G.one = true) : ∀ u ∈ c, u.oneCell' = true := by
  intro u hu
  obtain ⟨i, hi, rfl⟩ := List.mem_iff_getElem.1 hu
  have hl := h.length
  have hv : a[i]? = some a[i] := by simp [show i < a.length by omega]
  obtain ⟨u', hu', hr⟩ := h.get hv
  have : c[i]? = some c[i] := by simp
  rw [this] at hu'
  cases hu'
  exact hr.one (List.all_eq_true.1 h1 _ (List.getElem_mem _))

/-- Cells of values alike are alike. -/
theorem VR.cellsL {ι : Inj} {v c : Value} (h : VR ι v c) (h1 : (G.cellsL v).all G.one = true) : VRL ι (G.cellsL v) c.cells.toList := by
  cases v with
  | agg a =>
    simp only [VR] at h
    obtain ⟨a', rfl, h2, _⟩ := h
    simpa [G.cellsL, Value.cells] using VRA_iff.1 h2
  | tuple a => simp [G.cellsL, G.one] at h1
  | _ =>
    have h2 := h.one (by simpa [G.cellsL] using h1)
    cases c <;> simp_all [G.cellsL, Value.cells, VRL, Value.oneCell']

/-! ### heaps -/
def own (H : Heap) (b : Nat) : Prop := (∃ cs, H[b]? = some (.cells cs false)) ∨ ∃ es k, H[b]? = some (.map es k)

def ER (ι : Inj) : List Ent → List MapEntry → Prop
  | [], [] => True
  | a :: x, b :: y => plainKey a.key = true ∧ b.key = a.key ∧ VR ι a.val b.val ∧ b.born = a.born ∧ ER ι x y
  | _, _ => False

structure Rel (ι : Inj) (H : Heap) (w : World) : Prop where
  dom : ∀ b l, ι b = some l → b < H.size
  bound : ∀ b l, ι b = some l → l.blk < w.heap.size
  cells : ∀ b l cs ro, ι b = some l → H[b]? = some (.cells cs ro) → ∀ (i : Nat) v, cs[i]? = some v → one v = true ∧ ∃ c, w.cell? ⟨l.blk, l.δ + i, none⟩ = some c ∧ VR ι v c
  rw : ∀ b l cs, ι b = some l → H[b]? = some (.cells cs false) → ∃ C t fr, w.heap[l.blk]? = some (.cells C t fr) ∧ C.size = l.tot ∧ l.δ + cs.length ≤ l.tot ∧ ∀ i, i < C.size → ¬(fr.1 ≤ i ∧ i < fr.2)
  maps : ∀ b l es k, ι b = some l → H[b]? = some (.map es k) → ∃ es', w.heap[l.blk]? = some (.map es' k) ∧ ER ι es es'.toList
  inj : ∀ b c l m, ι b = some l → ι c = some m → l.blk = m.blk → b ≠ c → own H b → H[c]? = some .dead

/-- What a step does: what was is where it was; what nobody reaches is as it was; memory that isn't one's own is as it was. -/
structure Stp (ι : Inj) (H : Heap) (w : World) (ι' : Inj) (H' : Heap) (w' : World) : Prop where
  rel : Rel ι' H' w'
  le : Le ι ι'
  old : ∀ b, b < H.size → ι' b = ι b
  size : H.size ≤ H'.size
  wsize : w.heap.size ≤ w'.heap.size
  unm : ∀ b, b < H.size → ι b = none → H'[b]? = H[b]?
  keep : ∀ k, k < w.heap.size → (∀ b l, ι b = some l → l.blk = k → ¬ own H b) → w'.heap[k]? = w.heap[k]?
  mine : ∀ b l, ι' b = some l → own H' b → w.heap.size ≤ l.blk ∨ ∃ c m, ι c = some m ∧ own H c ∧ m.blk = l.blk
  os : w'.os = w.os
  tape : w'.tape = w.tape
  output : w'.output = w.output

theorem Stp.refl {ι : Inj} {H : Heap} {w : World} (h : Rel ι H w) : Stp ι H w ι H w :=
  ⟨h, .refl ι, fun _ _ => rfl, Nat.le_refl _, Nat.le_refl _, fun _ _ _ => rfl, fun _ _ _ => rfl, fun b l hb ho => .inr ⟨b, l, hb, ho, rfl⟩, rfl, rfl, rfl⟩

theorem Stp.trans {ι ι' ι'' : Inj} {H H' H'' : Heap} {w w' w'' : World} (h : Stp ι H w ι' H' w') (k : Stp ι' H' w' ι'' H'' w'') : Stp ι H w ι'' H'' w'' where
  rel := k.rel
  le := h.le.trans k.le
  old := fun b hb => (k.old b (Nat.lt_of_lt_of_le hb h.size)).trans (h.old b hb)
  size := Nat.le_trans h.size k.size
  wsize := Nat.le_trans h.wsize k.wsize
  unm := fun b hb hn => (k.unm b (Nat.lt_of_lt_of_le hb h.size) ((h.old b hb).trans hn)).trans (h.unm b hb hn)
  keep := fun j hj hno => by
    rw [k.keep j (Nat.lt_of_lt_of_le hj h.wsize) ?_, h.keep j hj hno]
    intro b l hb hl ho
    rcases h.mine b l hb ho with h1 | ⟨c, m, hc, hoc, hm⟩
    · omega
    · exact hno c m hc (hm.trans hl) hoc
  mine := fun b l hb ho => by
    rcases k.mine b l hb ho with h1 | ⟨c, m, hc, hoc, hm⟩
    · exact .inl (Nat.le_trans h.wsize h1)
    · rcases h.mine c m hc hoc with h2 | ⟨d, n, hd, hod, hn⟩
      · exact .inl (hm ▸ h2)
      · exact .inr ⟨d, n, hd, hod, hn.trans hm⟩
  os := k.os.trans h.os
  tape := k.tape.trans h.tape
  output := k.output.trans h.output

theorem Rel.drew {ι : Inj} {H : Heap} {w : World} (h : Rel ι H w) (n : Nat) : Rel ι H { w with drawn := n } :=
  ⟨h.dom, h.bound, h.cells, h.rw, h.maps, h.inj⟩
theorem Stp.of_drew {ι ι' : Inj} {H H' : Heap} {w w' : World} {n : Nat} (h : Stp ι H { w with drawn := n } ι' H' w') : Stp ι H w ι' H' w' :=
  ⟨h.rel, h.le, h.old, h.size, h.wsize, h.unm, h.keep, h.mine, h.os, h.tape, h.output⟩

end Go.Proofs.Ytohclaopcejjnaa.G
