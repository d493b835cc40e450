/- What well-typed arguments look like, type by type. -/
import Derived.Test.YtohclaopcejjnaaI11
namespace Go.Proofs.Ytohclaopcejjnaa.G
open Go
set_option linter.unusedVariables false
set_option linter.unusedSimpArgs false
section
variable {P : Program}
theorem wt_int {d : Nat} {t : TypeId} {k : IntKind} (ht : P.underlying t = some (.int k)) {cs : List IV} (h : WT P (d + 1) t cs) : ∃ n, cs = [.int k n] ∧ (Lit.int k n).wf = true := by
  simp only [WT, ht] at h; exact h
theorem wt_slice {d : Nat} {t e : TypeId} (ht : P.underlying t = some (.slice e)) {cs : List IV} (h : WT P (d + 1) t cs) :
    cs = [.sc (.slice none 0 0)] ∨ ∃ ys, cs = [.lst (P.cellsOf e) false ys] ∧ ys.length ≤ maxLen ∧ ∀ y ∈ ys, ∃ cs, y = mkE (P.cellsOf e) cs ∧ cs.length = P.cellsOf e ∧ WT P d e cs := by
  simp only [WT, ht] at h; exact h
theorem wt_struct {d : Nat} {t : TypeId} {fs : Array Field} (ht : P.underlying t = some (.struct fs)) {cs : List IV} (h : WT P (d + 1) t cs) : WTF (WT P d) fs.toList cs := by
  simp only [WT, ht] at h; exact h
/-- A list whose elements are each told by something. -/
theorem choose_list {α : Type} {f : α → IV} {p : α → Prop} : ∀ {ys : List IV}, (∀ y ∈ ys, ∃ a, y = f a ∧ p a) → ∃ l : List α, ys = l.map f ∧ ∀ a ∈ l, p a
  | [], _ => ⟨[], rfl, by simp⟩
  | y :: ys, h => by
    obtain ⟨a, rfl, ha⟩ := h y (by simp)
    obtain ⟨l, rfl, hl⟩ := choose_list (ys := ys) fun z hz => h z (by simp [hz])
    exact ⟨a :: l, rfl, fun b hb => by
      rcases List.mem_cons.1 hb with rfl | hb
      · exact ha
      · exact hl b hb⟩
theorem wt_ints {d : Nat} {t e : TypeId} {k : IntKind} (ht : P.underlying t = some (.slice e)) (he : P.underlying e = some (.int k)) (hc : P.cellsOf e = 1) {cs : List IV} (h : WT P (d + 2) t cs) :
    ∃ zs : List Int, ((cs = [.sc (.slice none 0 0)] ∧ zs = []) ∨ cs = [.lst 1 false (zs.map (IV.int k))]) ∧ zs.length ≤ maxLen ∧ ∀ z ∈ zs, (Lit.int k z).wf = true := by
  rcases wt_slice ht h with rfl | ⟨ys, rfl, h1, h2⟩
  · exact ⟨[], .inl ⟨rfl, rfl⟩, by simp, by simp⟩
  · obtain ⟨zs, rfl, hz⟩ := choose_list (f := IV.int k) (p := fun z => (Lit.int k z).wf = true) (ys := ys) (fun y hy => by
      obtain ⟨cs, rfl, _, hw⟩ := h2 y hy
      obtain ⟨n, rfl, hn⟩ := wt_int he hw
      exact ⟨n, by simp [mkE, hc], hn⟩)
    exact ⟨zs, .inr (by rw [hc]), by simpa using h1, hz⟩
theorem wf_u64 {n : Int} (h : (Lit.int .u64 n).wf = true) : 0 ≤ n ∧ n < 18446744073709551616 := by
  simp [Lit.wf, IntKind.min, IntKind.max, IntKind.signed, IntKind.bits] at h
  omega
theorem wf_u32 {n : Int} (h : (Lit.int .u32 n).wf = true) : 0 ≤ n ∧ n < 4294967296 := by
  simp [Lit.wf, IntKind.min, IntKind.max, IntKind.signed, IntKind.bits] at h
  omega
theorem wf_u16 {n : Int} (h : (Lit.int .u16 n).wf = true) : 0 ≤ n ∧ n < 65536 := by
  simp [Lit.wf, IntKind.min, IntKind.max, IntKind.signed, IntKind.bits] at h
  omega
theorem wf_u8 {n : Int} (h : (Lit.int .u8 n).wf = true) : 0 ≤ n ∧ n < 256 := by
  simp [Lit.wf, IntKind.min, IntKind.max, IntKind.signed, IntKind.bits] at h
  omega
theorem wf_i32 {n : Int} (h : (Lit.int .i32 n).wf = true) : -2147483648 ≤ n ∧ n < 2147483648 := by
  simp [Lit.wf, IntKind.min, IntKind.max, IntKind.signed, IntKind.bits] at h
  omega
theorem wf_i64 {n : Int} (h : (Lit.int .i64 n).wf = true) : -9223372036854775808 ≤ n ∧ n < 9223372036854775808 := by
  simp [Lit.wf, IntKind.min, IntKind.max, IntKind.signed, IntKind.bits] at h
  omega
theorem argOf_one {t : TypeId} (h : isAggT P t = false) (x : IV) : argOf P t [x] = x := by simp [argOf, h]
theorem argOf_agg {t : TypeId} (h : isAggT P t = true) (cs : List IV) : argOf P t cs = .agg cs := by simp [argOf, h]
end
end Go.Proofs.Ytohclaopcejjnaa.G
