/- Regions of open order: in whatever order the machine takes them, it comes to what the plain reading comes to in its one order. -/
import Derived.Test.YtohclaopcejjnaaG14
namespace Go.Proofs.Ytohclaopcejjnaa.G
open Go

/-! ### looks -/
theorem looks_notR (e : Env) (o : SOp) (h : isR o = false) : looks e o = .nothing := by
  cases o <;> simp [isR] at h <;> rfl

theorem rd_lt {H : Heap} {b off n : Nat} {vs : List Value} (h : rd H b off n = some vs) : b < H.size := by
  obtain ⟨cs, ro, hH, _⟩ := rd_spec h
  exact (Array.getElem?_eq_some_iff.1 hH).1

def lookBlk : Look → Option Nat
  | .nothing => none
  | .range b _ _ => some b
  | .whole b => some b

theorem looks_lt (C : Ctx) (e : Env) (o : SOp) {H : Heap} {r : Value × Heap} (h : exec C e o H = some r) : ∀ b, lookBlk (looks e o) = some b → b < H.size := by
  intro b hb
  by_cases hr : isR o = false
  · rw [looks_notR e o hr] at hb; simp [lookBlk] at hb
  · cases o <;> simp [isR] at hr
    case load agg sz x =>
      simp only [exec, looks] at h hb
      generalize ev e x = vx at h hb
      unfold aload at h
      split at h
      · split at h
        · rename_i hrd
          simp only [lookBlk, Option.some.injEq] at hb
          subst hb
          exact rd_lt hrd
        · simp at h
      · simp at h
    case lenM x =>
      simp only [exec, looks] at h hb
      generalize ev e x = vx at h hb
      cases vx with
      | map p =>
        cases p with
        | none => simp [lookBlk] at hb
        | some c =>
          simp only [lookBlk, Option.some.injEq] at hb
          subst hb
          simp only at h
          split at h
          · rename_i hH; exact (Array.getElem?_eq_some_iff.1 hH).1
          · simp at h
      | _ => simp at h
    case lookup t ok m k =>
      simp only [exec, looks] at h hb
      generalize ev e m = vx at h hb
      unfold alookup at h
      cases vx with
      | map p =>
        cases p with
        | none => simp [lookBlk] at hb
        | some c =>
          simp only [lookBlk, Option.some.injEq] at hb
          subst hb
          simp only at h
          split at h
          · rename_i hH; exact (Array.getElem?_eq_some_iff.1 hH).1
          · simp at h
      | _ => simp at h

theorem same_refl (H : Heap) (k : Look) : same H H k = true := by cases k <;> simp [same]
theorem same_trans {A B C : Heap} {k : Look} (h : same A B k = true) (g : same B C k = true) : same A C k = true := by
  cases k <;> simp_all [same]
theorem same_push {H : Heap} (o : Blk) {k : Look} (h : ∀ b, lookBlk k = some b → b < H.size) : same H (H.push o) k = true := by
  cases k with
  | nothing => rfl
  | range b off n =>
    have := h b rfl
    have e : rd (H.push o) b off n = rd H b off n := by
      unfold rd
      rw [Array.getElem?_push, if_neg (by omega)]
    simp only [same, e, decide_true]
  | whole b =>
    have := h b rfl
    simp only [same, decide_eq_true_eq]
    rw [Array.getElem?_push, if_neg (by omega)]

/-! ### what an operation reads, it names -/
theorem opds_named {P : Program} {op : Op} {so : SOp} (h : compileOp P op = some so) : ∀ x ∈ opdsS so, x ∈ op.operands.toList := by
  unfold compileOp at h
  split at h
  · simp at h
  rename_i hneg
  clear hneg
  cases op <;> simp only at h
  case build t parts =>
    have hps : ∀ (l : List (Nat × Operand)) (g : Nat × Operand → Option (Nat × Nat × Operand)) (m : List (Nat × Nat × Operand)), (∀ p y, g p = some y → y.2.2 = p.2) → l.mapM g = some m → m.map (·.2.2) = l.map (·.2) := by
      intro l g
      induction l with
      | nil => intro m _ h; simp at h; subst h; rfl
      | cons p l ih =>
        intro m hg h
        simp only [List.mapM_cons, Option.bind_eq_bind, Option.bind_eq_some_iff] at h
        obtain ⟨y, hy, ys, hys, h⟩ := h
        simp at h; subst h
        simp [ih ys hg hys, hg p y hy]
    split at h
    · simp at h
    split at h
    · split at h
      · simp at h
      simp only [Option.bind_eq_bind, Option.bind_eq_some_iff] at h
      obtain ⟨ps, hp, h⟩ := h
      simp at h; subst h
      intro x hx
      simp only [opdsS] at hx
      rw [hps _ _ ps (fun p y hy => by
        obtain ⟨i, x⟩ := p
        simp only [Option.bind_eq_some_iff] at hy
        obtain ⟨f, hf, hy⟩ := hy
        split at hy
        · simp at hy; subst hy; rfl
        · simp at hy) hp] at hx
      simpa [Op.operands] using hx
    · split at h
      · simp at h; subst h
        intro x hx
        simp only [opdsS, List.map_map] at hx
        simpa [Op.operands, Function.comp_def] using hx
      · simp at h
    · simp at h
  case buildSlice t n parts =>
    split at h
    · split at h
      · simp at h; subst h
        intro x hx
        simp only [opdsS, List.map_map] at hx
        simpa [Op.operands, Function.comp_def] using hx
      · simp at h
    · simp at h
  case call c =>
    obtain ⟨callee, args, ats⟩ := c
    simp only at h
    split at h
    · simp at h; subst h
      intro x hx
      simp only [opdsS] at hx
      simp [Op.operands, Call.operands, hx]
    · simp at h; subst h
      intro x hx
      simp only [opdsS, List.mem_cons] at hx
      rcases hx with rfl | hx
      · simp [Op.operands, Call.operands]
      · simp [Op.operands, Call.operands, hx]
    all_goals
      (intro x hx
       (repeat' split at h) <;> first
        | (simp at h; done)
        | (simp at h; subst h
           simp only [opdsS, List.mem_cons, List.not_mem_nil, or_false] at hx
           simp only [Op.operands, Call.operands, Array.toList_append, List.mem_append]
           right
           simp_all))
  all_goals
    (intro x hx
     (repeat' split at h) <;> first
      | (simp at h; done)
      | (simp at h; subst h; simp [opdsS] at hx; done)
      | (simp at h; subst h; simpa [opdsS, Op.operands] using hx)
      | (simp at h; subst h; simp [opdsS, Op.operands] at hx ⊢; simp_all; done)
      | (simp at h; subst h; simp [opdsS, Op.operands] at hx ⊢; first | exact .inl hx | exact hx.elim (fun h => .inl h) (fun h => .inr h)))

end Go.Proofs.Ytohclaopcejjnaa.G
