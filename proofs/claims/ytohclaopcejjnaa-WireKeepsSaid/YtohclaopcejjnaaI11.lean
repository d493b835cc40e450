/- A law is run: from what the reading with lists in the open tells to what the row asks. -/
import Derived.Test.YtohclaopcejjnaaI10
import Derived.ChangeShapes
namespace Go.Proofs.Ytohclaopcejjnaa.G
open Go Go.RowKit Go.ChangeShapes
set_option linter.unusedSimpArgs false
set_option linter.unusedVariables false

/-- An argument as a value. -/
def argOf (P : Program) (t : TypeId) (cs : List IV) : IV := if isAggT P t then .agg cs else cs.headD (.tup [])
def WTA (P : Program) (D : Nat) : List TypeId → List IV → Prop
  | [], xs => xs = []
  | t :: ts, xs => ∃ cs r, xs = argOf P t cs :: r ∧ WT P D t cs ∧ WTA P D ts r
section
variable {Hd : Type} {enc : TypeId × Value → Hd} {P : Program} {W : World}

theorem okWide_sl {r : Reach} {base : Nat} {u : TypeId} {a : Addr} {n k : Nat} (h : Cell.okWide P W r base u (.slice (some a) n k)) : 0 < W.heap.size := by
  unfold Cell.okWide at h
  split at h
  all_goals first
    | (rename_i heq; cases heq; done)
    | (unfold Cell.ok at h
       split at h
       all_goals first
         | (rename_i heq; cases heq; done)
         | (exact h.elim)
         | skip)
  all_goals try (rename_i heq _; cases heq; done)
  rename_i heq
  cases heq
  obtain ⟨_, _, _, _, row, cells, hs, _⟩ := h
  unfold World.shape? at hs
  rcases Nat.lt_or_ge a.block W.heap.size with hlt | hge
  · omega
  · rw [Array.getElem?_eq_none hge] at hs
    simp at hs

theorem arg_shape {D : Nat} {t : TypeId} {r : Reach} {base : Nat} {v : Value} (hok : okT P D t = true) (h : Value.okWide P W r base t v) :
    ((isAggT P t = true ∧ ∃ a, v = .agg a) ∨ (isAggT P t = false ∧ v.cells.toList = [v])) ∧ (0 < W.heap.size ∨ noSl v.cells.toList) := by
  cases D with
  | zero => simp [okT] at hok
  | succ D =>
  cases ht : P.underlying t with
  | none => simp [okT, ht] at hok
  | some u =>
  unfold Value.okWide at h
  simp only [ht] at h
  have agg : ∀ {cs : Array Value}, Row.okWide P W r base t cs → (0 < W.heap.size ∨ noSl cs.toList) := by
    intro cs hr
    by_cases hz : 0 < W.heap.size
    · exact .inl hz
    · refine .inr fun c hc a n k e => ?_
      subst e
      obtain ⟨ts, _, _, hall⟩ := hr
      obtain ⟨i, hi, hi2⟩ := List.mem_iff_getElem.1 hc
      obtain ⟨u, _, hu⟩ := hall i _ (by rw [← Array.getElem?_toList]; rw [List.getElem?_eq_getElem hi, hi2])
      exact hz (okWide_sl hu)
  have one1 : ∀ {r : Reach} {base : Nat}, Cell.okWide P W r base t v → (0 < W.heap.size ∨ noSl [v]) := by
    intro r base hr
    by_cases hz : 0 < W.heap.size
    · exact .inl hz
    · refine .inr fun c hc a n k e => ?_
      simp at hc
      subst hc e
      exact hz (okWide_sl hr)
  cases u with
  | struct fs =>
    obtain ⟨cs, rfl, _, hr⟩ := h
    exact ⟨.inl ⟨by simp [isAggT, ht], cs, rfl⟩, agg hr⟩
  | array n e =>
    obtain ⟨cs, rfl, _, hr⟩ := h
    exact ⟨.inl ⟨by simp [isAggT, ht], cs, rfl⟩, agg hr⟩
  | bool =>
    have h' := h
    unfold Cell.okWide at h'
    simp only [ht] at h'
    unfold Cell.ok at h'
    simp only [ht] at h'
    cases v <;> simp at h'
    exact ⟨.inr ⟨by simp [isAggT, ht], rfl⟩, one1 h⟩
  | int k =>
    have h' := h
    unfold Cell.okWide at h'
    simp only [ht] at h'
    unfold Cell.ok at h'
    simp only [ht] at h'
    cases v <;> simp at h'
    exact ⟨.inr ⟨by simp [isAggT, ht], rfl⟩, one1 h⟩
  | string =>
    have h' := h
    unfold Cell.okWide at h'
    simp only [ht] at h'
    unfold Cell.ok at h'
    simp only [ht] at h'
    cases v <;> simp at h'
    exact ⟨.inr ⟨by simp [isAggT, ht], rfl⟩, one1 h⟩
  | slice e =>
    have h' := h
    unfold Cell.okWide at h'
    simp only [ht] at h'
    unfold Cell.ok at h'
    simp only [ht] at h'
    cases v <;> simp at h'
    exact ⟨.inr ⟨by simp [isAggT, ht], rfl⟩, one1 h⟩
  | _ => simp [okT, ht] at hok

theorem lay_all {D : Nat} : ∀ (ts : List TypeId) (vs : List Value) (ds : List (DataW Hd)) (p : List MemPlace) {r : Reach} {base : Nat}, DataW.TrodAll enc P W 0 (fun _ => true) true ts vs ds p → (∀ t ∈ ts, okT P D t = true) →
    (∀ (j : Nat) t v, ts[j]? = some t → vs[j]? = some v → Value.okWide P W r base t v) →
    ∀ ι H, Lay W ι H → ∃ xs gs ι' H', Lay W ι' H' ∧ Ext ι H ι' H' ∧ WTA P D ts xs ∧ ipureL xs = true ∧ IRL (W0 H') xs gs ∧ VRL ι' gs vs
  | [], [], [], p, r, base, h, _, _, ι, H, hL => ⟨[], [], ι, H, hL, .refl _ _, rfl, rfl, by simp [IRL], by simp [VRL]⟩
  | t :: ts, v :: vs, d :: ds, p, r, base, h, hok, hval, ι, H, hL => by
    obtain ⟨p1, q1, ⟨fuel, h1⟩, h2, _⟩ := h
    have hv := hval 0 t v rfl rfl
    have hot := hok t (by simp)
    obtain ⟨hsh, hz⟩ := arg_shape hot hv
    obtain ⟨cs, ι1, H1, k1, k2, k3, k4, ⟨gs1, k5, k6⟩, k7⟩ := lay_trod D fuel t _ _ hz hot h1 ι H hL
    obtain ⟨xs, gs, ι2, H2, m1, m2, m3, m4, m5, m6⟩ := lay_all ts vs ds q1 h2 (fun u hu => hok u (by simp [hu])) (fun j u w hu hw => hval (j + 1) u w (by simpa using hu) (by simpa using hw)) ι1 H1 k1
    rcases hsh with ⟨hagg, a, rfl⟩ | ⟨hagg, hc⟩
    · refine ⟨.agg cs :: xs, .agg gs1.toArray :: gs, ι2, H2, m1, k2.trans m2, ⟨cs, xs, by simp [argOf, hagg], k3, m3⟩, by simp [ipureL, ipure, k4, m4], IRL.cons_iff.2 ⟨_, _, rfl, (IR.mk_agg k5).pure m2.F _ _ (by simp [ipure, k4]), m5⟩, ?_⟩
      simp only [VRL, VR]
      exact ⟨⟨a, rfl, VRA_iff.2 (VRL.mono m2.le _ _ k6), k5.ones.2⟩, m6⟩
    · rw [hc] at k6
      have hl := k6.length
      have hl2 := k5.len
      match cs, gs1, hl, hl2, k5, k4, k3, k6 with
      | [x], [g], _, _, k5, k4, k3, k6 =>
        obtain ⟨g', gs', hg, hx1, hx2, hx3, _⟩ := CRL.cons_iff.1 k5
        simp only [List.cons.injEq] at hg
        obtain ⟨rfl, rfl⟩ := hg
        simp only [ipureL, Bool.and_true] at k4
        simp only [VRL, and_true] at k6
        refine ⟨x :: xs, g :: gs, ι2, H2, m1, k2.trans m2, ⟨[x], xs, by simp [argOf, hagg], k3, m3⟩, by simp [ipureL, k4, m4], IRL.cons_iff.2 ⟨_, _, rfl, (hx3.toIR hx1).pure m2.F _ _ k4, m5⟩, ?_⟩
        simp only [VRL]
        exact ⟨k6.mono m2.le, m6⟩
  | [], [], _ :: _, _, _, _, h, _, _, _, _, _ => by simp [DataW.TrodAll] at h
  | [], _ :: _, _, _, _, _, h, _, _, _, _, _ => by simp [DataW.TrodAll] at h
  | _ :: _, [], _, _, _, _, h, _, _, _, _, _ => by simp [DataW.TrodAll] at h
  | _ :: _, _ :: _, [], _, _, _, h, _, _, _, _, _ => by simp [DataW.TrodAll] at h

theorem trodAll_below (hl : laidOutB P = true) {W' : World} (hb : Below W.heap.size W W') : ∀ (ts : List TypeId) (vs : List Value) (ds : List (DataW Hd)) (p : List MemPlace), (∀ t ∈ ts, P.readableRec t = true ∧ t < P.types.size) →
    DataW.TrodAll enc P W 0 (fun _ => true) true ts vs ds p → (∀ x ∈ p, x.block < W.heap.size) → DataW.TrodAll enc P W' 0 (fun b => decide (b < W.heap.size)) true ts vs ds p
  | [], [], [], p, _, h, _ => h
  | t :: ts, v :: vs, d :: ds, p, hr, h, hlt => by
    obtain ⟨p1, q1, h1, h2, rfl⟩ := h
    refine ⟨p1, q1, Below.trod hl (hr t (by simp)).1 (hr t (by simp)).2 h1 hb (fun x hx => hlt x (by simp [hx])), trodAll_below hl hb ts vs ds q1 (fun u hu => hr u (by simp [hu])) h2 (fun x hx => hlt x (by simp [hx])), rfl⟩
  | [], [], _ :: _, _, _, h, _ => by simp [DataW.TrodAll] at h
  | [], _ :: _, _, _, _, h, _ => by simp [DataW.TrodAll] at h
  | _ :: _, [], _, _, _, h, _ => by simp [DataW.TrodAll] at h
  | _ :: _, _ :: _, [], _, _, h, _ => by simp [DataW.TrodAll] at h

theorem frz_bool {J : JH} {k : Nat} {v : IV} {b : Bool} (h : frz J k v = some (.bool b)) : v = .bool b := by
  cases k with
  | zero =>
    simp only [frz] at h
    split at h
    · simpa using h
    · simp at h
  | succ k =>
    simp only [frz] at h
    split at h
    · simpa using h
    · cases v with
      | agg cs => simp only at h; cases hm : cs.mapM (frz J k) <;> rw [hm] at h <;> simp at h
      | tup cs => simp only at h; cases hm : cs.mapM (frz J k) <;> rw [hm] at h <;> simp at h
      | fn f a c => simp only at h; split at h <;> simp at h
      | sl b0 v off n cap sz =>
        simp only at h
        split at h
        · simp at h
        · split at h
          · split at h
            · split at h <;> simp at h
            · simp at h
          · simp at h
      | _ => simp at h

/-- A law that comes to true. -/
theorem run_law {B : IBook} (hB : IBookOK B (plainBook P)) {f : FuncId} {xs : List IV} (hp : pc B f xs = some (.bool true)) {ι : Inj} {H : Heap} (hL : Lay W ι H) {gs cargs : List Value} (h1 : IRL (W0 H) xs gs) (h2 : VRL ι gs cargs) :
    Calls P f cargs.toArray W fun e w' => e = .returned (.bool true) ∧ Below W.heap.size W w' := by
  unfold pc at hp
  split at hp
  · rename_i v J1 hc
    obtain rfl := frz_bool hp
    obtain ⟨n, hn⟩ := ic_lim hc
    have hHR : HR (W0 H) #[] H := ⟨fun b w β h => by simp [W0] at h, fun b w β cs ro h => by simp [W0] at h, fun b w β es k h => by simp [W0] at h, fun b c w v β h => by simp [W0] at h, fun β cs h => by
      simp only [W0, FH] at h
      split at h
      · rename_i cs' r hr
        simp only [Option.some.injEq] at h
        subst h
        exact ⟨r, hr⟩
      · simp at h⟩
    obtain ⟨W', c, H', k1, k2, k3⟩ := icall_ok hB n f xs #[] _ J1 hn (W0 H) H gs hHR h1
    obtain ⟨rfl, _⟩ := k3.sc
    obtain ⟨g1, g2⟩ := acall_ok (plainBook_ok P) n f gs H _ H' k1 ι W cargs hL.rel h2
    refine g2.mono fun e w' hh => ?_
    obtain ⟨ι', c, rfl, hv, hst⟩ := hh
    simp only [VR] at hv
    subst hv
    refine ⟨rfl, hst.os, hst.tape, hst.output, hst.wsize, fun k hk => hst.keep k hk fun b l hb _ ho => ?_⟩
    obtain ⟨cs, hcs⟩ := hL.ro b (hL.rel.dom b l hb)
    rcases ho with ⟨es, he⟩ | ⟨es, q, he⟩ <;> rw [hcs] at he <;> cases he
  · simp at hp

/-- The whole of it: what is to be shown of a law is said of the reading with lists in the open alone. -/
theorem law_calls {B : IBook} (hB : IBookOK B (plainBook P)) {f : FuncId} {D : Nat} {ts : List TypeId} {vs : List Value} {ds : List (DataW Hd)} {p : List MemPlace} {r : Reach} {base : Nat}
    (hok : ∀ t ∈ ts, okT P D t = true) (hA : DataW.TrodAll enc P W 0 (fun _ => true) true ts vs ds p) (hval : ∀ (j : Nat) t v, ts[j]? = some t → vs[j]? = some v → Value.okWide P W r base t v)
    (hp : ∀ xs, WTA P D ts xs → ipureL xs = true → pc B f xs = some (.bool true)) : Calls P f vs.toArray W fun e w' => e = .returned (.bool true) ∧ Below W.heap.size W w' := by
  obtain ⟨xs, gs, ι, H, m1, _, m3, m4, m5, m6⟩ := lay_all ts vs ds p hA hok hval _ _ (lay_empty W)
  exact run_law hB (hp xs m3 m4) m1 m5 m6
end
#print axioms law_calls
end Go.Proofs.Ytohclaopcejjnaa.G
