/- Each operation but calls: what the one reading does, the other does. -/
import Derived.Test.YtohclaopcejjnaaI3
namespace Go.Proofs.Ytohclaopcejjnaa.G
open Go
set_option linter.unusedSimpArgs false
set_option linter.unusedVariables false
section
variable {W : Wd} {J : JH} {H : Heap}

theorem sl_len {n sz : Nat} : n * sz ≤ n * sz := Nat.le_refl _
theorem sliceCells_some (b off n k sz : Nat) : sliceCells H sz (.slice (some ⟨b, off, none⟩) n k) = rd H b off (n * sz) := by
  cases n <;> rfl
theorem rd_take {b off n m : Nat} {cs : List Value} (h : rd H b off n = some cs) (hm : m ≤ n) : rd H b off m = some (cs.take m) := by
  unfold rd at h ⊢
  split at h
  · rename_i ds ro hb
    split at h
    · rename_i hle
      simp only [Option.some.injEq] at h
      subst h
      rw [if_pos (by omega), List.take_take, Nat.min_eq_left hm]
    · simp at h
  · simp at h

theorem append_sim (h : HR W J H) {sz bytes : Nat} {s x v : IV} {c d : Value} {J' : JH} (hs : IR W s c) (hx : IR W x d) (hsz : 0 < sz) (he : iappend sz bytes s x J = some (v, J')) : ∃ l, blkOf s = some l ∧ Goal W J H (· ∈ l) (aappend sz bytes c d H) v J' := by
  unfold iappend at he
  split at he
  · rename_i xs n hxs hn
    obtain ⟨cs, h1, h2, n2, h3, h4, h5⟩ := iscells_ok h hx hxs
    rw [hn] at h3
    simp only [Option.some.injEq] at h3
    subst h3
    have hal := ilen_ok hx hn
    simp only [aappend, h1, hal]
    split at he
    · obtain ⟨rfl, _⟩ := hs.sc
      refine ⟨[], rfl, ?_⟩
      simp only
      split at he
      · rename_i h0
        simp only [Option.some.injEq, Prod.mk.injEq] at he
        obtain ⟨rfl, rfl⟩ := he
        rw [if_pos h0]
        exact .same h _ hs
      · rename_i h0
        rw [if_neg h0]
        split at he
        · rename_i hf
          simp only [Option.some.injEq, Prod.mk.injEq] at he
          obtain ⟨rfl, rfl⟩ := he
          simp only [Bool.and_eq_true] at hf
          rw [hf.1, h2.ones.2]
          simp only [Bool.and_self, if_true]
          exact ⟨_, _, _, rfl, (h.push (X := .cells 0 xs false) (.inl ⟨xs, cs, rfl, rfl, h2⟩)).weak (fun _ hx => hx.elim), .mk_sl (w := 0) (β := H.size) (by simp [Wd.add]) (Nat.le_refl _) hsz (.inr rfl) (fun _ => rfl)⟩
        · simp at he
    · rename_i z f ys
      obtain ⟨β, o, cap, ds, hF, rfl, hz, hle, hcap, hfull, hpu, hcr⟩ := hs.lst
      refine ⟨[], rfl, ?_⟩
      simp only
      split at he
      · rename_i h0
        simp only [Option.some.injEq, Prod.mk.injEq] at he
        obtain ⟨rfl, rfl⟩ := he
        rw [if_pos h0]
        exact .same h _ hs
      · rename_i h0
        rw [if_neg h0]
        split at he
        · rename_i hf
          simp only [Option.some.injEq, Prod.mk.injEq] at he
          obtain ⟨rfl, rfl⟩ := he
          simp only [Bool.and_eq_true, beq_iff_eq] at hf
          obtain ⟨⟨⟨rfl, rfl⟩, hfit⟩, hall⟩ := hf
          obtain ⟨rfl, hu⟩ := hfull rfl
          have hfl := hcr.flat (by simp; omega)
          obtain ⟨r, hH⟩ := h.fro β ds hF
          have hrd : rd H β o (ys.length * z) = some ((ds.drop o).take (ys.length * z)) := by
            unfold rd; rw [hH]; simp only; rw [if_pos hle]
          rw [hfit, h2.ones.2]
          simp only [Bool.and_self, if_true, if_neg (Nat.not_le.2 hu), hrd]
          rw [if_neg (by omega)]
          exact ⟨_, _, _, rfl, (h.push (X := .cells 0 (ys.flatMap icells ++ xs) false) (.inl ⟨_, _, rfl, rfl, hfl.append h2⟩)).weak (fun _ hx => hx.elim), .mk_sl (w := 0) (β := H.size) (by simp [Wd.add]) (Nat.le_refl _) hsz (.inr rfl) (fun _ => rfl)⟩
        · simp at he
    · rename_i b w off len cap z
      obtain ⟨w0, β, γ, hM, hle, rfl, hz, hcap, hγ⟩ := hs.sl
      refine ⟨[b], rfl, ?_⟩
      simp only
      split at he
      · rename_i h0
        simp only [Option.some.injEq, Prod.mk.injEq] at he
        obtain ⟨rfl, rfl⟩ := he
        rw [if_pos h0]
        exact .same h _ hs
      · rename_i h0
        rw [if_neg h0]
        split at he
        · rename_i hf
          obtain ⟨rfl, hf⟩ := hf
          simp only [Bool.and_eq_true] at hf
          rw [hf.1, h2.ones.2]
          simp only [Bool.and_self, if_true]
          split at he
          · rename_i hu
            rw [if_pos hu]
            split at he
            · rename_i hc
              subst hc
              simp only [if_true]
              split at he
              · rename_i w' es hJ
                split at he
                · rename_i hc2
                  obtain ⟨rfl, hoff⟩ := hc2
                  simp only [Option.some.injEq, Prod.mk.injEq] at he
                  obtain ⟨rfl, rfl⟩ := he
                  obtain rfl : w = w0 := by
                    rcases h.dom b w0 β hM with ⟨cs2, ro2, h6⟩ | ⟨_, es, k, h6⟩
                    · rw [hJ] at h6; cases h6; rfl
                    · rw [hJ] at h6; cases h6
                  obtain rfl := hγ rfl
                  obtain ⟨es', r, h6, h7, h8, _⟩ := h.cells b w γ es false hM hJ
                  obtain ⟨rfl, _⟩ := h8 rfl
                  rw [h6]
                  simp only [h7.len, if_pos hoff]
                  exact ⟨_, _, _, rfl, (h.grow hM hJ (((h7.drop off).take (len * z)).append h2)).weak (fun x hx => by simp [hx]), .mk_sl (w := w + 1) (β := H.size) (by simp [Wd.bump]) (Nat.le_refl _) hz (.inr rfl) (fun _ => rfl)⟩
                · simp at he
              · simp at he
            · simp at he
          · rename_i hu
            rw [if_neg hu]
            split at he
            · rename_i hlc
              rw [if_pos hlc]
              split at he
              · rename_i J1 hw
                simp only [Option.some.injEq, Prod.mk.injEq] at he
                obtain ⟨rfl, rfl⟩ := he
                obtain ⟨rfl, H1, h6, h7⟩ := h.write hM hw (fun _ => h2)
                obtain rfl := hγ rfl
                rw [h6]
                exact ⟨_, _, _, rfl, h7.weak (fun x hx => by simp [hx]), .mk_sl (w := w) (β := γ) hM (Nat.le_refl _) hz (.inl ⟨by omega, hlc⟩) (fun _ => rfl)⟩
              · simp at he
            · rename_i hlc
              rw [if_neg hlc]
              split at he
              · rename_i old hr
                simp only [Option.some.injEq, Prod.mk.injEq] at he
                obtain ⟨rfl, rfl⟩ := he
                obtain ⟨rfl, old', h6, h7⟩ := h.read hM hr
                obtain rfl := hγ rfl
                rw [h6]
                exact ⟨_, _, _, rfl, (h.push (X := .cells 0 (old ++ xs) false) (.inl ⟨_, _, rfl, rfl, h7.append h2⟩)).weak (fun _ hx => hx.elim), .mk_sl (w := 0) (β := H.size) (by simp [Wd.add]) (Nat.le_refl _) hsz (.inr rfl) (fun _ => rfl)⟩
              · simp at he
        · simp at he
    · simp at he
  · simp at he

theorem ilen_slice {x : IV} {c : Value} (hx : IR W x c) {n : Nat} (hl : ilen x = some n) : ∃ a k, c = .slice a n k := by
  cases x with
  | sc v =>
    obtain ⟨rfl, h2⟩ := hx.sc
    unfold ilen at hl
    split at hl
    · rename_i heq; simp only [IV.sc.injEq] at heq; subst heq; simp only [Option.some.injEq] at hl; subst hl; exact ⟨_, _, rfl⟩
    · rename_i heq; cases heq
    · rename_i heq; cases heq
    · simp at hl
  | sl b v off m cap sz =>
    obtain ⟨w, β, γ, _, _, rfl, _⟩ := hx.sl
    simp only [ilen, Option.some.injEq] at hl
    subst hl
    exact ⟨_, _, rfl⟩
  | lst sz f xs =>
    obtain ⟨β, o, cap, cs, _, rfl, _⟩ := hx.lst
    simp only [ilen, Option.some.injEq] at hl
    subst hl
    exact ⟨_, _, rfl⟩
  | _ => simp [ilen] at hl

theorem copy_sim (h : HR W J H) {sz : Nat} {s x v : IV} {c d : Value} {J' : JH} (hs : IR W s c) (hx : IR W x d) (he : icopy sz s x J = some (v, J')) : Goal W J H (TT (blkOf s)) (acopy sz c d H) v J' := by
  unfold icopy at he
  split at he
  · rename_i dl n hdl hn
    obtain ⟨a1, k1, rfl⟩ := ilen_slice hs hdl
    obtain ⟨a2, k2, rfl⟩ := ilen_slice hx hn
    simp only [acopy]
    split at he
    · rename_i h0
      rw [if_pos h0]
      simp only [Option.some.injEq, Prod.mk.injEq] at he
      obtain ⟨rfl, rfl⟩ := he
      exact .same h _ (.mk_sc rfl)
    · rename_i h0
      rw [if_neg h0]
      split at he
      · rename_i vs b w off m k z hvs
        split at he
        · rename_i hz
          subst hz
          split at he
          · rename_i J1 hw
            simp only [Option.some.injEq, Prod.mk.injEq] at he
            obtain ⟨rfl, rfl⟩ := he
            obtain ⟨cs, h1, h2, n2, h3, h4, h5⟩ := iscells_ok h hx hvs
            obtain ⟨w0, β, γ, hM, hle, hc, hz, hcap, hγ⟩ := hs.sl
            simp only [Value.slice.injEq] at hc
            obtain ⟨rfl, rfl, rfl⟩ := hc
            obtain ⟨rfl, H1, h6, h7⟩ := h.write hM hw (fun _ => h2.take _)
            obtain rfl := hγ rfl
            have hcl : sliceCells H z (.slice a2 (min n dl) k2) = some (cs.take (min n dl * z)) := by
              match a2, n, h1 with
              | none, 0, _ => simp at h0
              | some ⟨b2, o2, none⟩, n, h1 =>
                rw [sliceCells_some] at h1 ⊢
                exact rd_take h1 (Nat.mul_le_mul_right _ (Nat.min_le_left _ _))
              | none, n + 1, h1 => simp [sliceCells] at h1
              | some ⟨b2, o2, some _⟩, n, h1 => simp [sliceCells] at h1
            rw [hcl]
            simp only [h6]
            exact ⟨_, _, _, rfl, h7.weak (fun x hx => by simp [TT, blkOf, hx]), .mk_sc rfl⟩
          · simp at he
        · simp at he
      · simp at he
  · simp at he

theorem CRL_map_sc {l : List Value} (h : l.all (fun x => scOK x && one x) = true) : CRL W (l.map .sc) l := by
  induction l with
  | nil => simp [CRL]
  | cons x l ih =>
    simp only [List.all_cons, Bool.and_eq_true] at h
    exact CRL.cons_iff.2 ⟨x, l, rfl, by simpa [ione] using h.1.2, h.1.2, by simp [CR, h.1.1, h.1.2], ih (by simpa using h.2)⟩
theorem CRL_reps {z : List Value} (h : z.all (fun x => scOK x && one x) = true) (n : Nat) : CRL W (ireps n (z.map .sc)) (reps n z) := by
  unfold ireps reps
  induction n with
  | zero => simp [CRL]
  | succ n ih => simp only [List.replicate_succ, List.flatten_cons]; exact (CRL_map_sc h).append ih

theorem clearS_sim (h : HR W J H) {z : List Value} {x v : IV} {d : Value} {J' : JH} (hz : z.all (fun x => scOK x && one x) = true) (hx : IR W x d) (he : iclearS (z.map .sc) x J = some (v, J')) : Goal W J H (TT (blkOf x)) (aclearS z d H) v J' := by
  unfold iclearS at he
  split at he
  · rename_i b w off n k sz
    obtain ⟨w0, β, γ, hM, hle, rfl, _, hcap, hγ⟩ := hx.sl
    simp only [aclearS]
    split at he
    · rename_i h0
      rw [if_pos h0]
      simp only [Option.some.injEq, Prod.mk.injEq] at he
      obtain ⟨rfl, rfl⟩ := he
      exact .same h _ .mk_unit
    · rename_i h0
      rw [if_neg h0]
      split at he
      · rename_i J1 hw
        simp only [Option.some.injEq, Prod.mk.injEq] at he
        obtain ⟨rfl, rfl⟩ := he
        obtain ⟨rfl, H1, h6, h7⟩ := h.write hM hw (fun _ => CRL_reps hz n)
        obtain rfl := hγ rfl
        simp only [h6]
        exact ⟨_, _, _, rfl, h7.weak (fun x hx => by simp [TT, blkOf, hx]), .mk_unit⟩
      · simp at he
  · split at he
    · rename_i h0
      simp only [Option.some.injEq, Prod.mk.injEq] at he
      obtain ⟨rfl, rfl⟩ := he
      obtain ⟨a, k, rfl⟩ := ilen_slice hx h0
      simp only [aclearS, if_true]
      exact .same h _ .mk_unit
    · simp at he

/-! maps -/
theorem ikeyL_ok : ∀ {cs : List IV} {l : List Value} {vs : List Value}, ikeyL cs = some l → CRL W cs vs → vs = l
  | [], l, vs, h, hc => by simp [ikeyL] at h; subst h; simpa [CRL] using hc
  | x :: cs, l, vs, h, hc => by
    obtain ⟨v, vs', rfl, _, _, h4, h5⟩ := CRL.cons_iff.1 hc
    unfold ikeyL at h
    split at h
    · rename_i heq; cases heq
    · rename_i k n r heq
      simp only [List.cons.injEq] at heq
      obtain ⟨rfl, rfl⟩ := heq
      cases hk : ikeyL cs with
      | none => rw [hk] at h; simp at h
      | some m =>
        rw [hk] at h
        simp at h
        subst h
        rw [ikeyL_ok hk h5]
        simp [CR] at h4
        rw [h4.1]
    · rename_i b r heq
      simp only [List.cons.injEq] at heq
      obtain ⟨rfl, rfl⟩ := heq
      cases hk : ikeyL cs with
      | none => rw [hk] at h; simp at h
      | some m =>
        rw [hk] at h
        simp at h
        subst h
        rw [ikeyL_ok hk h5]
        simp [CR] at h4
        rw [h4.1]
    · simp at h
theorem ikey_ok {k : IV} {kv c : Value} (hk : ikey k = some kv) (hc : IR W k c) : c = kv := by
  cases k with
  | sc v =>
    obtain ⟨rfl, _⟩ := hc.sc
    simp only [ikey] at hk
    split at hk <;> simp_all
  | agg cs =>
    obtain ⟨a, rfl, h2⟩ := hc.agg
    simp only [ikey] at hk
    cases hl : ikeyL cs with
    | none => rw [hl] at hk; simp at hk
    | some l =>
      rw [hl] at hk
      simp at hk
      subst hk
      rw [← ikeyL_ok hl h2]
  | _ => simp [ikey] at hk
theorem ikeyL_plain : ∀ {cs : List IV} {l : List Value}, ikeyL cs = some l → (l.all fun v => match v with | .int _ _ | .bool _ => true | _ => false) = true
  | [], l, h => by simp [ikeyL] at h; subst h; rfl
  | x :: cs, l, h => by
    unfold ikeyL at h
    split at h
    · rename_i heq; cases heq
    · rename_i k n r heq
      simp only [List.cons.injEq] at heq
      obtain ⟨rfl, rfl⟩ := heq
      cases hk : ikeyL cs with
      | none => rw [hk] at h; simp at h
      | some m => rw [hk] at h; simp at h; subst h; simpa using ikeyL_plain hk
    · rename_i b r heq
      simp only [List.cons.injEq] at heq
      obtain ⟨rfl, rfl⟩ := heq
      cases hk : ikeyL cs with
      | none => rw [hk] at h; simp at h
      | some m => rw [hk] at h; simp at h; subst h; simpa using ikeyL_plain hk
    · simp at h
theorem ikey_plain {k : IV} {kv : Value} (hk : ikey k = some kv) : plainKey kv = true := by
  cases k with
  | sc v =>
    simp only [ikey] at hk
    split at hk
    · rename_i h; simp only [Option.some.injEq] at hk; subst hk; exact h
    · simp at hk
  | agg cs =>
    simp only [ikey] at hk
    cases hl : ikeyL cs with
    | none => rw [hl] at hk; simp at hk
    | some l =>
      rw [hl] at hk
      simp at hk
      subst hk
      simp only [plainKey]
      exact ikeyL_plain hl
  | _ => simp [ikey] at hk

theorem IER.good {k : Value} : ∀ {a : List IEnt} {b : List Ent}, IER W a b → (b.all fun e => plainKey e.key && sameMake k e.key) = a.all fun e => plainKey e.key && sameMake k e.key
  | [], [], _ => rfl
  | [], _ :: _, h => by simp [IER] at h
  | _ :: _, [], h => by simp [IER] at h
  | a :: x, b :: y, h => by
    simp only [IER] at h
    simp only [List.all_cons, IER.good h.2.2.2, h.1]
theorem IER.goodKeys {k : Value} {a : List IEnt} {b : List Ent} (h : IER W a b) : goodKeys k b = igoodKeys k a := by
  simp only [G.goodKeys, igoodKeys, h.good]
theorem IER.find {k : Value} : ∀ {a : List IEnt} {b : List Ent}, IER W a b → (match ifindE k a with | some e => ∃ d, findE k b = some d ∧ IR W e.val d.val | none => findE k b = none)
  | [], [], _ => rfl
  | [], _ :: _, h => by simp [IER] at h
  | _ :: _, [], h => by simp [IER] at h
  | a :: x, b :: y, h => by
    simp only [IER] at h
    simp only [ifindE, findE, h.1]
    by_cases hk : k = a.key
    · simp only [if_pos hk]; exact ⟨b, rfl, h.2.1⟩
    · simp only [if_neg hk]; exact IER.find h.2.2.2
theorem IER.set {k : Value} {v : IV} {c : Value} (hv : IR W v c) : ∀ {a : List IEnt} {b : List Ent}, IER W a b → IER W (isetE k v a) (setE k c b)
  | [], [], _ => trivial
  | [], _ :: _, h => by simp [IER] at h
  | _ :: _, [], h => by simp [IER] at h
  | a :: x, b :: y, h => by
    simp only [IER] at h
    simp only [isetE, setE, h.1]
    by_cases hk : k = a.key
    · simp only [if_pos hk, IER]; exact ⟨trivial, hv, h.2.2⟩
    · simp only [if_neg hk, IER]; exact ⟨h.1, h.2.1, h.2.2.1, IER.set hv h.2.2.2⟩
theorem IER.del {k : Value} : ∀ {a : List IEnt} {b : List Ent}, IER W a b → IER W (idelE k a) (delE k b)
  | [], [], _ => trivial
  | [], _ :: _, h => by simp [IER] at h
  | _ :: _, [], h => by simp [IER] at h
  | a :: x, b :: y, h => by
    simp only [IER] at h
    simp only [idelE, delE, h.1]
    by_cases hk : k = a.key
    · simp only [if_pos hk]; exact h.2.2.2
    · simp only [if_neg hk, IER]; exact ⟨h.1, h.2.1, h.2.2.1, IER.del h.2.2.2⟩
theorem IER.snoc {k : Value} {v : IV} {c : Value} {n : Nat} (hv : IR W v c) : ∀ {a : List IEnt} {b : List Ent}, IER W a b → IER W (a ++ [⟨k, v, n⟩]) (b ++ [⟨k, c, n⟩])
  | [], [], _ => ⟨rfl, hv, rfl, trivial⟩
  | [], _ :: _, h => by simp [IER] at h
  | _ :: _, [], h => by simp [IER] at h
  | a :: x, b :: y, h => by
    simp only [IER] at h
    simp only [List.cons_append, IER]
    exact ⟨h.1, h.2.1, h.2.2.1, IER.snoc hv h.2.2.2⟩
theorem IER.len : ∀ {a : List IEnt} {b : List Ent}, IER W a b → b.length = a.length
  | [], [], _ => rfl
  | [], _ :: _, h => by simp [IER] at h
  | _ :: _, [], h => by simp [IER] at h
  | a :: x, b :: y, h => by
    simp only [IER] at h
    simp [IER.len h.2.2.2]

theorem HR.map (h : HR W J H) {b w β γ k : Nat} {es : List IEnt} (hM : W.M b = some (w, β)) (hJ : J[b]? = some (.map es k)) (hγ : w = 0 → γ = β) : γ = β ∧ ∃ es', H[β]? = some (.map es' k) ∧ IER W es es' :=
  ⟨hγ (h.M_map hM hJ), h.maps b w β es k hM hJ⟩
theorem IR.mk_tup2 {a b : IV} {c d : Value} (h : IR W a c) (k : IR W b d) : IR W (.tup [a, b]) (.tuple #[c, d]) := by
  simp only [IR]
  exact .inr ⟨_, rfl, IRL.cons_iff.2 ⟨c, [d], rfl, h, IRL.cons_iff.2 ⟨d, [], rfl, k, IRL.nil_iff.2 rfl⟩⟩⟩
theorem lookup_sim (h : HR W J H) (t : Nat → Prop) {zero : IV} {z : Value} {ok : Bool} {m k v : IV} {c d : Value} {J' : JH} (hz : IR W zero z) (hm : IR W m c) (hk : IR W k d) (he : ilookup zero ok m k J = some (v, J')) : Goal W J H t (alookup z ok c d H) v J' := by
  unfold ilookup at he
  split at he
  · simp at he
  rename_i kv hkv
  obtain rfl := ikey_ok hkv hk
  have hpl := ikey_plain hkv
  have htup : ∀ {a : IV} {x : Value}, IR W a x → ∀ b, IR W (if ok = true then .tup [a, .bool b] else a) (if ok = true then .tuple #[x, .bool b] else x) := fun {a x} ha b => by
    cases ok with
    | true => exact .mk_tup2 ha (.mk_sc rfl)
    | false => exact ha
  split at he
  · obtain ⟨rfl, _⟩ := hm.sc
    simp only [Option.some.injEq, Prod.mk.injEq] at he
    obtain ⟨rfl, rfl⟩ := he
    simp only [alookup, hpl, if_true]
    exact .same h _ (htup hz false)
  · rename_i b
    obtain ⟨w, β, γ, hM, rfl, hγ⟩ := hm.map
    split at he
    · rename_i es k0 hJ
      obtain ⟨rfl, es', h1, h2⟩ := h.map hM hJ hγ
      simp only [alookup, h1, h2.goodKeys]
      split at he
      · rename_i hg
        rw [if_pos hg]
        have hf := h2.find (k := d)
        split at he
        · rename_i e hfe
          rw [hfe] at hf
          obtain ⟨e', hf1, hf2⟩ := hf
          simp only [Option.some.injEq, Prod.mk.injEq] at he
          obtain ⟨rfl, rfl⟩ := he
          simp only [hf1]
          exact .same h _ (htup hf2 true)
        · rename_i hfe
          rw [hfe] at hf
          simp only [Option.some.injEq, Prod.mk.injEq] at he
          obtain ⟨rfl, rfl⟩ := he
          simp only [hf]
          exact .same h _ (htup hz false)
      · simp at he
    · simp at he
  · simp at he
theorem mapset_sim (h : HR W J H) {m k u v : IV} {c d e : Value} {J' : JH} (hm : IR W m c) (hk : IR W k d) (hu : IR W u e) (he : imapset m k u J = some (v, J')) : Goal W J H (TT (blkOf m)) (amapUpdate c d e H) v J' := by
  unfold imapset at he
  split at he
  · simp at he
  rename_i kv hkv
  obtain rfl := ikey_ok hkv hk
  split at he
  · rename_i b
    obtain ⟨w, β, γ, hM, rfl, hγ⟩ := hm.map
    split at he
    · rename_i es k0 hJ
      obtain ⟨rfl, es', h1, h2⟩ := h.map hM hJ hγ
      simp only [amapUpdate, h1, h2.goodKeys]
      split at he
      · rename_i hg
        rw [if_pos hg]
        have hf := h2.find (k := d)
        split at he
        · rename_i e0 hfe
          rw [hfe] at hf
          obtain ⟨e', hf1, hf2⟩ := hf
          simp only [Option.some.injEq, Prod.mk.injEq] at he
          obtain ⟨rfl, rfl⟩ := he
          simp only [hf1]
          exact ⟨_, _, _, rfl, (h.set hM (.inr ⟨_, _, _, ⟨es, k0, hJ⟩, rfl, rfl, h2.set hu⟩)).weak (fun x hx => by simp [TT, blkOf, hx]), .mk_unit⟩
        · rename_i hfe
          rw [hfe] at hf
          simp only [Option.some.injEq, Prod.mk.injEq] at he
          obtain ⟨rfl, rfl⟩ := he
          simp only [hf]
          exact ⟨_, _, _, rfl, (h.set hM (.inr ⟨_, _, _, ⟨es, k0, hJ⟩, rfl, rfl, h2.snoc hu⟩)).weak (fun x hx => by simp [TT, blkOf, hx]), .mk_unit⟩
      · simp at he
    · simp at he
  · simp at he
theorem delete_sim (h : HR W J H) {m k v : IV} {c d : Value} {J' : JH} (hm : IR W m c) (hk : IR W k d) (he : idelete m k J = some (v, J')) : Goal W J H (TT (blkOf m)) (adelete c d H) v J' := by
  unfold idelete at he
  split at he
  · simp at he
  rename_i kv hkv
  obtain rfl := ikey_ok hkv hk
  have hpl := ikey_plain hkv
  split at he
  · obtain ⟨rfl, _⟩ := hm.sc
    simp only [Option.some.injEq, Prod.mk.injEq] at he
    obtain ⟨rfl, rfl⟩ := he
    simp only [adelete, hpl, if_true]
    exact .same h _ .mk_unit
  · rename_i b
    obtain ⟨w, β, γ, hM, rfl, hγ⟩ := hm.map
    split at he
    · rename_i es k0 hJ
      obtain ⟨rfl, es', h1, h2⟩ := h.map hM hJ hγ
      simp only [adelete, h1, h2.goodKeys]
      split at he
      · rename_i hg
        rw [if_pos hg]
        simp only [Option.some.injEq, Prod.mk.injEq] at he
        obtain ⟨rfl, rfl⟩ := he
        exact ⟨_, _, _, rfl, (h.set hM (.inr ⟨_, _, _, ⟨es, k0, hJ⟩, rfl, rfl, h2.del⟩)).weak (fun x hx => by simp [TT, blkOf, hx]), .mk_unit⟩
      · simp at he
    · simp at he
  · simp at he

/-! slices -/
theorem asNat_ok {x : IV} {c : Value} (hx : IR W x c) {n : Nat} (h : iasNat x = some n) : asNat c = some n := by
  cases x with
  | sc v => obtain ⟨rfl, _⟩ := hx.sc; exact h
  | _ => simp [iasNat] at h
def IRO (W : Wd) : Option IV → Option Value → Prop
  | none, none => True
  | some x, some c => IR W x c
  | _, _ => False
theorem bnd_ok {x : Option IV} {c : Option Value} (hx : IRO W x c) {d n : Nat} (h : ibnd x d = some n) : bnd c d = some n := by
  cases x <;> cases c <;> simp only [IRO] at hx
  · simpa [ibnd, bnd] using h
  · exact asNat_ok hx h
theorem IRO.isSome {x : Option IV} {c : Option Value} (hx : IRO W x c) : c.isSome = x.isSome ∧ c.isNone = x.isNone ∧ (c = none ↔ x = none) := by
  cases x <;> cases c <;> simp only [IRO] at hx <;> simp
theorem capOf_le {n cap sz : Nat} (h : cap < UNK ∧ n ≤ cap ∨ cap = UNK + sz) : n ≤ capOf n cap := by
  unfold capOf
  split <;> omega
theorem slice_sim {sz : Nat} {s v : IV} {c : Value} {lo hi mx : Option IV} {lo' hi' mx' : Option Value} (hs : IR W s c) (h1 : IRO W lo lo') (h2 : IRO W hi hi') (h3 : IRO W mx mx') (he : islice sz s lo hi mx = some v) :
    ∃ d, aslice sz c lo' hi' mx' = some d ∧ IR W v d := by
  unfold islice at he
  split at he
  · obtain ⟨rfl, hok⟩ := hs.sc
    split at he
    · rename_i hm hh hl
      split at he
      · simp at he
      · rename_i hc
        simp only [Option.some.injEq] at he
        subst he
        refine ⟨.slice none 0 0, ?_, hs⟩
        have hc' : ¬ (mx'.isSome && hi'.isNone) = true := by rw [h3.isSome.1, h2.isSome.2.1]; exact hc
        have e0 : capOf 0 0 = 0 := rfl
        simp only [aslice, if_neg hc', e0, bnd_ok h3 hm, bnd_ok h2 hh, bnd_ok h1 hl, Nat.le_refl, and_self, if_true]
    · simp at he
  · rename_i b w off len cap z
    obtain ⟨w0, β, γ, hM, hle, rfl, hz, hcap, hγ⟩ := hs.sl
    split at he
    · simp at he
    · rename_i hc
      simp only [Bool.or_eq_true, not_or, Bool.not_eq_true, bne_eq_false_iff_eq] at hc
      obtain ⟨hc, rfl⟩ := hc
      have hc' : ¬ (mx'.isSome && hi'.isNone) = true := by rw [h3.isSome.1, h2.isSome.2.1, hc]; simp
      split at he
      · rename_i m h l hm hh hl
        simp only [aslice, if_neg hc', bnd_ok h3 hm, bnd_ok h2 hh, bnd_ok h1 hl]
        split at he
        · rename_i hb
          rw [if_pos hb]
          by_cases hu : UNK ≤ cap ∧ mx = none
          · rw [if_pos hu] at he
            rw [if_pos ⟨hu.1, h3.isSome.2.2.2 hu.2⟩]
            split at he
            · rename_i hcz
              rw [if_pos hcz]
              simp only [Option.some.injEq] at he
              subst he
              exact ⟨_, rfl, .mk_sl hM hle hz (.inr hcz) hγ⟩
            · simp at he
          · rw [if_neg hu] at he
            rw [if_neg (fun e => hu ⟨e.1, h3.isSome.2.2.1 e.2⟩)]
            split at he
            · rename_i hml
              rw [if_pos hml]
              simp only [Option.some.injEq] at he
              subst he
              exact ⟨_, rfl, .mk_sl hM hle hz (.inl ⟨by simp [UNK], Nat.le_refl _⟩) hγ⟩
            · rename_i hml
              rw [if_neg hml]
              split at he
              · rename_i hmU
                simp only [Option.some.injEq] at he
                subst he
                exact ⟨_, rfl, .mk_sl hM hle hz (.inl ⟨by omega, by omega⟩) hγ⟩
              · simp at he
        · simp at he
      · simp at he
  · rename_i z f xs
    obtain ⟨β, o, cap, cs, hF, rfl, hz, hle, hcap, hfull, hpu, hcr⟩ := hs.lst
    split at he
    · simp at he
    · rename_i hc
      simp only [Bool.or_eq_true, not_or, Bool.not_eq_true, bne_eq_false_iff_eq] at hc
      obtain ⟨hc, rfl⟩ := hc
      have hc' : ¬ (mx'.isSome && hi'.isNone) = true := by rw [h3.isSome.1, h2.isSome.2.1, hc]; simp
      split at he
      · rename_i m h l hm hh hl
        split at he
        · rename_i hb
          obtain ⟨hlh, hhm, hmx, hmU⟩ := hb
          simp only [Option.some.injEq] at he
          subst he
          have hcapo := capOf_le hcap
          obtain ⟨m', hm', hm2⟩ : ∃ m', bnd mx' (capOf xs.length cap) = some m' ∧ (mx = none ∧ m = xs.length ∧ m' = capOf xs.length cap ∨ mx ≠ none ∧ m' = m) := by
            cases mx with
            | none =>
              cases mx' with
              | none => simp only [ibnd, Option.some.injEq] at hm; exact ⟨_, rfl, .inl ⟨rfl, hm.symm, rfl⟩⟩
              | some _ => simp [IRO] at h3
            | some x =>
              cases mx' with
              | none => simp [IRO] at h3
              | some y => exact ⟨m, asNat_ok h3 hm, .inr ⟨by simp, rfl⟩⟩
          simp only [aslice, if_neg hc', hm', bnd_ok h2 hh, bnd_ok h1 hl]
          have hb2 : l ≤ h ∧ h ≤ m' ∧ m' ≤ capOf xs.length cap := by
            rcases hm2 with ⟨_, rfl, rfl⟩ | ⟨_, rfl⟩ <;> omega
          rw [if_pos hb2]
          have hwin : CRF W z ((xs.drop l).take (h - l)) (cs.drop (o + l * z)) := by
            have := (hcr.drop l).take (h - l)
            rw [List.drop_drop] at this
            exact this
          have hlen : ((xs.drop l).take (h - l)).length = h - l := by simp; omega
          have hmul : l * z + (h - l) * z ≤ xs.length * z := by
            rw [← Nat.add_mul]
            exact Nat.mul_le_mul_right _ (by omega)
          have hpu2 : ipureL ((xs.drop l).take (h - l)) = true := ipureL_take (ipureL_drop hpu l) _
          rcases hm2 with ⟨hmx0, rfl, rfl⟩ | ⟨hmx0, rfl⟩
          · have hmx0' : mx' = none := h3.isSome.2.2.2 hmx0
            by_cases hu : UNK ≤ cap
            · rw [if_pos ⟨hu, hmx0'⟩]
              have hcz : cap = UNK + z := by rcases hcap with hcap | hcap <;> omega
              rw [if_pos hcz]
              refine ⟨_, rfl, .mk_lst hF hlen.symm hz (by rw [hlen]; omega) (.inr hcz) ?_ hpu2 hwin⟩
              intro e
              simp [hmx0] at e
              have := (hfull e.1).2
              omega
            · rw [if_neg (fun e => hu e.1)]
              have hco : capOf xs.length cap = cap := by unfold capOf; rw [if_neg hu]
              rw [hco] at hb2 ⊢
              have hcap' : cap < UNK ∧ xs.length ≤ cap := by rcases hcap with hcap | hcap <;> omega
              by_cases hml : cap = l
              · rw [if_pos hml]
                have h0 : h - l = 0 := by omega
                refine ⟨_, rfl, .mk_lst hF (by rw [hlen, h0]) hz (by rw [hlen, h0]; omega) (.inl ⟨by simp [UNK], by rw [hlen, h0]; exact Nat.le_refl _⟩) (fun _ => ⟨by rw [hlen, h0], by simp [UNK]⟩) hpu2 ?_⟩
                rw [h0]; simp [CRF]
              · rw [if_neg hml]
                refine ⟨_, rfl, .mk_lst hF hlen.symm hz (by rw [hlen]; omega) (.inl ⟨by omega, by rw [hlen]; omega⟩) ?_ hpu2 hwin⟩
                intro e
                simp [hmx0] at e
                have := (hfull e.1).1
                rw [hlen]
                omega
          · have hmx0' : mx' ≠ none := fun e => hmx0 (h3.isSome.2.2.1 e)
            have hsome : mx.isSome = true := by cases mx <;> simp_all
            have hmU := hmU hsome
            rw [if_neg (fun e => hmx0' e.2)]
            by_cases hml : m' = l
            · rw [if_pos hml]
              have h0 : h - l = 0 := by omega
              refine ⟨_, rfl, .mk_lst hF (by rw [hlen, h0]) hz (by rw [hlen, h0]; omega) (.inl ⟨by simp [UNK], by rw [hlen, h0]; exact Nat.le_refl _⟩) (fun _ => ⟨by rw [hlen, h0], by simp [UNK]⟩) hpu2 ?_⟩
              rw [h0]; simp [CRF]
            · rw [if_neg hml]
              refine ⟨_, rfl, .mk_lst hF hlen.symm hz (by rw [hlen]; omega) (.inl ⟨by omega, by rw [hlen]; omega⟩) ?_ hpu2 hwin⟩
              intro e
              simp [hsome] at e
              rw [hlen]
              omega
        · simp at he
      · simp at he
  · simp at he

end
end Go.Proofs.Ytohclaopcejjnaa.G
