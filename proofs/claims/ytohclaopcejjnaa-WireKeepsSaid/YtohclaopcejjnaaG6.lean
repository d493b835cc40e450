/- Numbers, comparisons, fields, places in slices and arrays: the plain reading's operations are the machine's. -/
import Derived.Test.YtohclaopcejjnaaG5
import Derived.Laws.StructEq
namespace Go.Proofs.Ytohclaopcejjnaa.G
open Go

section
variable {P : Program} {ι : Inj} {H : Heap} {w : World}

/-! ### numbers -/
theorem run_eqGuard_plain (op : BinOp) (t : TypeId) (x y : Operand) (a b : Value) (h1 : ∀ z, a ≠ .agg z) (h2 : a ≠ .nilIface) : (eqGuard op t x y a b).run P w = .ok () w := by
  cases a <;> first
    | exact absurd rfl h2
    | exact absurd rfl (h1 _)
    | (cases op <;> simp [eqGuard])

theorem abin_spec {op : BinOp} {x y v : Value} (h : abin op x y = some v) : ∃ k a l b, x = .int k a ∧ y = .int l b ∧ (∀ t, (binOp op t x y).run P w = .ok v w) ∧ VR ι v v := by
  unfold abin at h
  split at h
  · rename_i k a l b
    refine ⟨k, a, l, b, rfl, rfl, fun t => ?_, ?_⟩
    · cases op <;> simp only [] at h <;>
        first
        | (split at h
           · simp at h
           · have : ¬ (b < 0) := by assumption
             simp at h; subst h; simp [binOp, Op.shift, this]; done)
        | (split at h
           · rename_i hk
             subst hk
             first
             | (simp at h; done)
             | (simp at h; subst h; simp [binOp, Op.intArith, Op.intBits, Op.intCmp]; done)
             | (split at h
                · simp at h
                · have : ¬ (b = 0) := by assumption
                  simp at h; subst h; simp [binOp, Op.intDiv, this]; done)
           · simp at h)
    · cases op <;> simp only [] at h <;> (repeat' split at h) <;> simp at h <;> subst h <;> simp [VR]
  · simp at h

theorem sim_bin (h : Rel ι H w) {op : BinOp} {x y cx cy v : Value} (t : TypeId) (ox oy : Operand) (hx : VR ι x cx) (hy : VR ι y cy) (he : abin op x y = some v) :
    Sim P ι H w (do eqGuard op t ox oy cx cy; binOp op t cx cy) v H := by
  obtain ⟨k, a, l, b, rfl, rfl, hr, hv⟩ := abin_spec (P := P) (ι := ι) (w := w) he
  simp only [VR] at hx hy
  subst hx; subst hy
  refine Sim.same h (c := v) ?_ hv
  rw [Sem.run_bind, run_eqGuard_plain _ _ _ _ _ _ (by simp) (by simp)]
  exact hr t

theorem aun_spec {op : UnOp} {x v c : Value} (h : aun op x = some v) (hx : VR ι x c) : (Op.unary op c).run P w = .ok v w ∧ VR ι v v := by
  unfold aun at h
  split at h <;> simp at h <;> subst h <;> simp only [VR] at hx <;> subst hx <;> simp [Op.unary, Op.intArith, Op.intBits, VR]

/-! ### comparisons -/
theorem equal_bool {t : TypeId} (ht : P.underlying t = some .bool) (a b : Bool) : (Op.equal t (.bool a) (.bool b)).run P w = .ok (a == b) w := by
  simp only [Op.equal, Op.maxDepth]
  exact run_equalIn_bool' w 9999 t a b ht
theorem sim_eqB (h : Rel ι H w) {t : TypeId} (ht : P.underlying t = some .bool) (neg : Bool) (a b : Bool) (ox oy : Operand) :
    Sim P ι H w (do eqGuard (if neg then .neq else .eql) t ox oy (.bool a) (.bool b); binOp (if neg then .neq else .eql) t (.bool a) (.bool b)) (.bool (if neg then !(a == b) else (a == b))) H := by
  refine Sim.same h (c := .bool (if neg then !(a == b) else (a == b))) ?_ (by simp [VR])
  rw [Sem.run_bind, run_eqGuard_plain _ _ _ _ _ _ (by simp) (by simp)]
  cases neg <;> simp [binOp, equal_bool ht]
theorem sim_eqS (h : Rel ι H w) (t : TypeId) (neg : Bool) (a b : ByteArray) (ox oy : Operand) :
    Sim P ι H w (do eqGuard (if neg then .neq else .eql) t ox oy (.string a) (.string b); binOp (if neg then .neq else .eql) t (.string a) (.string b)) (.bool (if neg then !(a.toList == b.toList) else (a.toList == b.toList))) H := by
  refine Sim.same h (c := .bool (if neg then !(a.toList == b.toList) else (a.toList == b.toList))) ?_ (by simp [VR])
  rw [Sem.run_bind, run_eqGuard_plain _ _ _ _ _ _ (by simp) (by simp)]
  cases neg <;> simp [binOp, Op.stringOp]

section
variable (w)
theorem eqn_ptr (d : Nat) {t e : TypeId} (ht : P.underlying t = some (.pointer e)) (a : Option Addr) : (Op.equalIn (d + 1) t (.pointer a) (.pointer none)).run P w = .ok a.isNone w := by
  cases a <;> simp [Op.equalIn, run_underlying ht]
theorem eqn_slc (d : Nat) {t e : TypeId} (ht : P.underlying t = some (.slice e)) (a : Option Addr) (n k : Nat) : (Op.equalIn (d + 1) t (.slice a n k) (.slice none 0 0)).run P w = .ok a.isNone w := by
  cases a <;> simp [Op.equalIn, run_underlying ht]
theorem eqn_map (d : Nat) {t k e : TypeId} (ht : P.underlying t = some (.map k e)) (a : Option Nat) : (Op.equalIn (d + 1) t (.map a) (.map none)).run P w = .ok a.isNone w := by
  cases a <;> simp [Op.equalIn, run_underlying ht]
theorem eqn_fn (d : Nat) {t : TypeId} {a b c} (ht : P.underlying t = some (.func a b c)) (f : Fn) (x y : Array Value) : (Op.equalIn (d + 1) t (.func f x y) .nilFunc).run P w = .ok false w := by
  simp [Op.equalIn, run_underlying ht]
theorem eqn_nilfn (d : Nat) {t : TypeId} {a b c} (ht : P.underlying t = some (.func a b c)) : (Op.equalIn (d + 1) t .nilFunc .nilFunc).run P w = .ok true w := by
  simp [Op.equalIn, run_underlying ht]
end

theorem equal_nil {t : TypeId} {y : Operand} {k : NilKind} (hn : nilOf (P.underlying t) y = some k) {x cx : Value} {b : Bool} (hx : VR ι x cx) (he : isNil k x = some b) (a : Act) :
    (Op.equal t cx (a.eval y)).run P w = .ok b w ∧ (∀ z, cx ≠ .agg z) ∧ cx ≠ .nilIface ∧ (binOp .eql t cx (a.eval y) = do pure (.bool (← Op.equal t cx (a.eval y)))) ∧ (binOp .neq t cx (a.eval y) = do pure (.bool (!(← Op.equal t cx (a.eval y))))) := by
  unfold nilOf at hn
  split at hn <;> simp at hn <;> subst hn <;> rename_i ht
  · cases x <;> simp [isNil] at he
    rename_i p
    subst he
    have hp : ∃ q, cx = .pointer q ∧ q.isNone = p.isNone := by
      cases p with
      | none => simp only [VR] at hx; exact ⟨none, hx, rfl⟩
      | some p => simp only [VR] at hx; obtain ⟨l, _, _, rfl⟩ := hx; exact ⟨_, rfl, rfl⟩
    obtain ⟨q, rfl, hq⟩ := hp
    rw [← hq]
    exact ⟨eqn_ptr w 9999 ht q, by simp, by simp, by simp [binOp, Act.eval], by simp [binOp, Act.eval]⟩
  · cases x <;> simp [isNil] at he
    rename_i p n c
    subst he
    have hp : ∃ q m d, cx = .slice q m d ∧ q.isNone = p.isNone := by
      cases p with
      | none => simp only [VR] at hx; exact ⟨none, 0, 0, hx.2.2, rfl⟩
      | some p =>
        simp only [VR] at hx
        obtain ⟨l, _, _, hx | hx | hx | hx⟩ := hx
        · exact ⟨_, _, _, hx.2.2, rfl⟩
        · obtain ⟨_, k', _, _, _, _, rfl⟩ := hx; exact ⟨_, _, _, rfl, rfl⟩
        · obtain ⟨_, _, a', rfl⟩ := hx; exact ⟨_, _, _, rfl, rfl⟩
        · obtain ⟨_, _, a', rfl⟩ := hx; exact ⟨_, _, _, rfl, rfl⟩
    obtain ⟨q, m, d, rfl, hq⟩ := hp
    rw [← hq]
    exact ⟨eqn_slc w 9999 ht q m d, by simp, by simp, by simp [binOp, Act.eval], by simp [binOp, Act.eval]⟩
  · cases x <;> simp [isNil] at he
    rename_i p
    subst he
    have hp : ∃ q, cx = .map q ∧ q.isNone = p.isNone := by
      cases p with
      | none => simp only [VR] at hx; exact ⟨none, hx, rfl⟩
      | some p => simp only [VR] at hx; obtain ⟨l, _, rfl⟩ := hx; exact ⟨_, rfl, rfl⟩
    obtain ⟨q, rfl, hq⟩ := hp
    rw [← hq]
    exact ⟨eqn_map w 9999 ht q, by simp, by simp, by simp [binOp, Act.eval], by simp [binOp, Act.eval]⟩
  · cases x <;> simp [isNil] at he
    · subst he
      simp only [VR] at hx
      obtain ⟨_, _, rfl, _⟩ := hx
      exact ⟨eqn_fn w 9999 ht _ _ _, by simp, by simp, by simp [binOp, Act.eval], by simp [binOp, Act.eval]⟩
    · subst he
      simp only [VR] at hx; subst hx
      exact ⟨eqn_nilfn w 9999 ht, by simp, by simp, by simp [binOp, Act.eval], by simp [binOp, Act.eval]⟩

theorem sim_eqNil (h : Rel ι H w) {t : TypeId} {y : Operand} {k : NilKind} (hn : nilOf (P.underlying t) y = some k) {x cx : Value} {b : Bool} (hx : VR ι x cx) (he : isNil k x = some b) (a : Act) (neg : Bool) (ox oy : Operand) :
    Sim P ι H w (do eqGuard (if neg then .neq else .eql) t ox oy cx (a.eval y); binOp (if neg then .neq else .eql) t cx (a.eval y)) (.bool (if neg then !b else b)) H := by
  obtain ⟨h1, h2, h3, h4, h5⟩ := equal_nil (P := P) (w := w) hn hx he a
  refine Sim.same h (c := .bool (if neg then !b else b)) ?_ (by simp [VR])
  rw [Sem.run_bind, run_eqGuard_plain _ _ _ _ _ _ h2 h3]
  cases neg
  · simp only [Bool.false_eq_true, if_false, Result.andThen_ok, h4, Sem.run_bind, h1, Sem.run_pure]
  · simp only [if_true, Result.andThen_ok, h5, Sem.run_bind, h1, Sem.run_pure]

/-! ### structs and arrays, held against each other -/
def mkV (P : Program) (t : TypeId) (xs : List Value) : Value := if isAggT P t then .agg xs.toArray else xs.headD undef

theorem aggEq_append : ∀ {a b c d : List Value} {r : Bool}, a.length = c.length → aggEq (a ++ b) (c ++ d) = some r → ∃ r1 r2, aggEq a c = some r1 ∧ aggEq b d = some r2 ∧ r = (r1 && r2)
  | [], b, [], d, r, _, h => ⟨true, r, rfl, h, by simp⟩
  | [], _, _ :: _, _, _, hl, _ => by simp at hl
  | _ :: _, _, [], _, _, hl, _ => by simp at hl
  | x :: a, b, y :: c, d, r, hl, h => by
    simp only [List.cons_append] at h
    unfold aggEq at h
    split at h
    · rename_i he; simp at he
    · rename_i k p x' l q y' he1 he2
      simp only [List.cons.injEq] at he1 he2
      obtain ⟨rfl, rfl⟩ := he1
      obtain ⟨rfl, rfl⟩ := he2
      split at h
      · rename_i hk
        split at h
        · rename_i r' hr'
          simp at h
          obtain ⟨r1, r2, h1, h2, rfl⟩ := aggEq_append (by simpa using hl) hr'
          exact ⟨p == q && r1, r2, by simp [aggEq, hk, h1], h2, by rw [← h, Bool.and_assoc]⟩
        · simp at h
      · simp at h
    · simp at h

theorem cellsOf_info {t : TypeId} {i : TypeInfo} (h : P.info? t = some i) : P.cellsOf t = i.size := by simp [Program.cellsOf, h]

theorem run_part {t : TypeId} {d : TypeDesc} {i : TypeInfo} (hd : P.underlying t = some d) (hi : P.info? t = some i) (cs : List Value) (off : Nat) (hfit : off + i.size ≤ cs.length) (h1 : isAggT P t = false → i.size = 1) :
    (part t cs.toArray off).run P w = .ok (mkV P t ((cs.drop off).take i.size)) w := by
  unfold part mkV
  rw [Sem.run_bind, run_isAgg hd]
  simp only [Result.andThen_ok]
  by_cases ha : isAggT P t = true
  · simp only [ha, if_true, Sem.run_bind, run_sizeOf hi, Result.andThen_ok, Sem.run_pure]
    congr 2
    apply Array.ext'
    simp [List.take_drop]
  · have ha' : isAggT P t = false := by simpa using ha
    have hs := h1 ha'
    simp only [ha', Bool.false_eq_true, if_false]
    have : off < cs.length := by omega
    rw [show cs.toArray[off]? = some cs[off] by simp [this], hs]
    simp [List.take_one, List.head?_drop, this]

theorem eqPlain_facts {d : Nat} {t : TypeId} (h : eqPlain P (d + 1) t = true) : ∃ u i, P.underlying t = some u ∧ P.info? t = some i ∧ (isAggT P t = false → i.size = 1) := by
  unfold eqPlain at h
  split at h
  · rename_i hu
    simp at h
    obtain ⟨i, hi⟩ := Option.isSome_iff_exists.1 h.2
    exact ⟨_, i, hu, hi, fun _ => by rw [← cellsOf_info hi]; exact h.1⟩
  · rename_i hu
    simp at h
    obtain ⟨i, hi⟩ := Option.isSome_iff_exists.1 h.1.1.1
    exact ⟨_, i, hu, hi, fun ha => by simp [isAggT, hu] at ha⟩
  · rename_i hu
    simp at h
    obtain ⟨i, hi⟩ := Option.isSome_iff_exists.1 h.1.1.1
    exact ⟨_, i, hu, hi, fun ha => by simp [isAggT, hu] at ha⟩
  · simp at h

theorem eqFields_plain (d k : Nat) (hk : d ≤ k) (xs ys : List Value) (w : World)
    (ih : ∀ t, eqPlain P d t = true → ∀ (xs ys : List Value) (r : Bool), xs.length = P.cellsOf t → ys.length = P.cellsOf t → aggEq xs ys = some r → ∀ k w, d ≤ k → (Op.equalIn k t (mkV P t xs) (mkV P t ys)).run P w = .ok r w) :
    ∀ (fs : List Field) (off : Nat) (r : Bool), tiles P fs off xs.length = true → ys.length = xs.length → off ≤ xs.length → (fs.all fun f => f.name != "_" && eqPlain P d f.type) = true → aggEq (xs.drop off) (ys.drop off) = some r →
      (Op.eqFields k xs.toArray ys.toArray fs).run P w = .ok r w
  | [], off, r, ht, hl, _, _, hr => by
    simp [tiles] at ht
    rw [List.drop_eq_nil_of_le (by omega), List.drop_eq_nil_of_le (by omega)] at hr
    simp [aggEq] at hr
    subst hr
    simp [Op.eqFields]
  | f :: fs, off, r, ht, hl, ho, ha, hr => by
    simp only [tiles, Bool.and_eq_true, beq_iff_eq] at ht
    simp only [List.all_cons, Bool.and_eq_true, bne_iff_ne, ne_eq] at ha
    obtain ⟨⟨hn, hp⟩, ha⟩ := ha
    obtain ⟨d, rfl⟩ : ∃ j, d = j + 1 := by
      cases d with
      | zero => simp [eqPlain] at hp
      | succ j => exact ⟨j, rfl⟩
    obtain ⟨u, i, hu, hi, h1⟩ := eqPlain_facts hp
    have hcz := cellsOf_info hi
    have hfit : off + i.size ≤ xs.length := by
      have : ∀ (gs : List Field) (o : Nat), tiles P gs o xs.length = true → o ≤ xs.length := by
        intro gs
        induction gs with
        | nil => intro o h; simp [tiles] at h; omega
        | cons g gs ih =>
          intro o h
          simp only [tiles, Bool.and_eq_true] at h
          have := ih _ h.2
          omega
      have := this fs _ ht.2
      omega
    have hsx : xs.drop off = (xs.drop off).take i.size ++ xs.drop (off + i.size) := by rw [← List.drop_drop, List.take_append_drop]
    have hsy : ys.drop off = (ys.drop off).take i.size ++ ys.drop (off + i.size) := by rw [← List.drop_drop, List.take_append_drop]
    rw [hsx, hsy] at hr
    obtain ⟨r1, r2, hr1, hr2, rfl⟩ := aggEq_append (by simp; omega) hr
    have e1 := ih f.type hp _ _ r1 (by rw [hcz]; simp; omega) (by rw [hcz]; simp; omega) hr1 k w hk
    simp only [Op.eqFields, if_pos hn, Sem.run_bind]
    rw [ht.1, run_part hu hi xs off hfit h1]
    simp only [Result.andThen_ok]
    rw [run_part hu hi ys off (by omega) h1]
    simp only [Result.andThen_ok]
    rw [e1]
    simp only [Result.andThen_ok]
    cases r1 with
    | false => simp
    | true =>
      simp only [Bool.not_true, Bool.false_eq_true, if_false, Bool.true_and]
      exact eqFields_plain (d + 1) k hk xs ys w ih fs (off + i.size) r2 (by rw [← hcz]; exact ht.2) hl (by omega) ha hr2

theorem eqArr_plain (d k : Nat) (hk : d ≤ k) (e : TypeId) (xs ys : List Value) (w : World) {i : TypeInfo} {u : TypeDesc} (hu : P.underlying e = some u) (hi : P.info? e = some i) (h1 : isAggT P e = false → i.size = 1) (hp : eqPlain P d e = true)
    (ih : ∀ t, eqPlain P d t = true → ∀ (xs ys : List Value) (r : Bool), xs.length = P.cellsOf t → ys.length = P.cellsOf t → aggEq xs ys = some r → ∀ k w, d ≤ k → (Op.equalIn k t (mkV P t xs) (mkV P t ys)).run P w = .ok r w) :
    ∀ (n j : Nat) (r : Bool), xs.length = (j + n) * i.size → ys.length = xs.length → aggEq (xs.drop (j * i.size)) (ys.drop (j * i.size)) = some r →
      (forIn (m := Sem) (List.range' j n) ((none, ()) : Option Bool × Unit) (fun q _ => do
        let a ← part e xs.toArray (q * i.size)
        let b ← part e ys.toArray (q * i.size)
        let c ← Op.equalIn k e a b
        if (!c) = true then pure (ForInStep.done (some false, ())) else pure (ForInStep.yield (none, ())))).run P w = .ok (if r then (none, ()) else (some false, ())) w
  | 0, j, r, hx, hy, hr => by
    simp only [Nat.add_zero] at hx
    rw [List.drop_eq_nil_of_le (by omega), List.drop_eq_nil_of_le (by omega)] at hr
    simp [aggEq] at hr
    subst hr
    simp
  | n + 1, j, r, hx, hy, hr => by
    have hcz := cellsOf_info hi
    have hx2 : xs.length = j * i.size + i.size + n * i.size := by rw [hx, Nat.add_mul, Nat.add_mul]; omega
    have hsx : xs.drop (j * i.size) = (xs.drop (j * i.size)).take i.size ++ xs.drop ((j + 1) * i.size) := by rw [Nat.add_mul, Nat.one_mul, ← List.drop_drop, List.take_append_drop]
    have hsy : ys.drop (j * i.size) = (ys.drop (j * i.size)).take i.size ++ ys.drop ((j + 1) * i.size) := by rw [Nat.add_mul, Nat.one_mul, ← List.drop_drop, List.take_append_drop]
    rw [hsx, hsy] at hr
    obtain ⟨r1, r2, hr1, hr2, rfl⟩ := aggEq_append (by simp; omega) hr
    have e1 := ih e hp _ _ r1 (by rw [hcz]; simp; omega) (by rw [hcz]; simp; omega) hr1 k w hk
    simp only [List.range'_succ, List.forIn_cons, Sem.run_bind]
    rw [run_part hu hi xs _ (by omega) h1]
    simp only [Result.andThen_ok]
    rw [run_part hu hi ys _ (by omega) h1]
    simp only [Result.andThen_ok]
    rw [e1]
    simp only [Result.andThen_ok]
    cases r1 with
    | false => simp
    | true =>
      simp only [Bool.not_true, Bool.false_eq_true, if_false, Bool.true_and, Sem.run_pure, Result.andThen_ok]
      exact eqArr_plain d k hk e xs ys w hu hi h1 hp ih n (j + 1) r2 (by rw [hx]; congr 1; omega) hy hr2

theorem run_eqPlain : ∀ (d : Nat) (t : TypeId), eqPlain P d t = true → ∀ (xs ys : List Value) (r : Bool), xs.length = P.cellsOf t → ys.length = P.cellsOf t → aggEq xs ys = some r →
    ∀ k w, d ≤ k → (Op.equalIn k t (mkV P t xs) (mkV P t ys)).run P w = .ok r w
  | 0, _, h => by simp [eqPlain] at h
  | d + 1, t, h => by
    intro xs ys r hx hy hr k w hk
    obtain ⟨k, rfl⟩ : ∃ j, k = j + 1 := ⟨k - 1, by omega⟩
    have hk' : d ≤ k := by omega
    unfold eqPlain at h
    split at h
    · rename_i hu
      simp at h
      rw [h.1] at hx hy
      have hag : isAggT P t = false := by simp [isAggT, hu]
      match xs, ys, hx, hy, hr with
      | [a], [b], _, _, hr =>
        simp only [mkV, hag, Bool.false_eq_true, if_false, List.headD_cons]
        cases a <;> cases b <;> simp [aggEq] at hr
        obtain ⟨rfl, rfl⟩ := hr
        rw [run_equalIn_int w k t _ _ _ _ hu]
    · rename_i fs hu
      simp only [Bool.and_eq_true, Bool.not_eq_true'] at h
      obtain ⟨⟨⟨_, hst⟩, ht⟩, ha⟩ := h
      have hag : isAggT P t = true := by simp [isAggT, hu]
      have hfo : P.fieldsOf t = fs := by simp [Program.fieldsOf, hu]
      simp only [mkV, hag, if_true]
      rw [run_equalIn_struct w k t _ _ (by rw [hfo]; exact hu) hst, hfo]
      rw [← hx] at ht
      exact eqFields_plain d k hk' xs ys w (fun t h xs ys r hx hy hr => run_eqPlain d t h xs ys r hx hy hr) fs.toList 0 r ht (by omega) (by omega) ha (by simpa using hr)
    · rename_i n e hu
      simp only [Bool.and_eq_true, beq_iff_eq] at h
      obtain ⟨⟨⟨_, _⟩, hn⟩, hp⟩ := h
      have hag : isAggT P t = true := by simp [isAggT, hu]
      obtain ⟨d, rfl⟩ : ∃ j, d = j + 1 := by
        cases d with
        | zero => simp [eqPlain] at hp
        | succ j => exact ⟨j, rfl⟩
      obtain ⟨u, i, hue, hie, h1⟩ := eqPlain_facts hp
      have hcz := cellsOf_info hie
      simp only [mkV, hag, if_true]
      have hA := eqArr_plain (d + 1) k hk' e xs ys w hue hie h1 hp (fun t h xs ys r hx hy hr => run_eqPlain (d + 1) t h xs ys r hx hy hr) n 0 r (by rw [hx, hn, hcz]; simp) (by omega) (by simpa using hr)
      simp only [Op.equalIn, Sem.run_bind, run_underlying hu, Result.andThen_ok, run_sizeOf hie]
      simp only [Std.Legacy.Range.forIn_eq_forIn_range', Std.Legacy.Range.size, Nat.sub_zero, Nat.add_one_sub_one, Nat.div_one]
      rw [hA]
      cases r <;> simp
    · simp at h
end
end Go.Proofs.Ytohclaopcejjnaa.G
