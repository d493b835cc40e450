/- Appends, copies, new slices, parts laid together, maps: the plain reading's operations are the machine's. -/
import Derived.Test.YtohclaopcejjnaaG7
namespace Go.Proofs.Ytohclaopcejjnaa.G
open Go

section
variable {P : Program} {ι : Inj} {H : Heap} {w : World}

theorem sim_sliceArr (h : Rel ι H w) {t e : TypeId} {n : Nat} (ht : P.underlying t = some (.array n e)) (hz : sized P e = true) {a : Addr} {c v : Value} {lo hi mx lo' hi' mx' : Option Value} (hs : VR ι (.pointer (some a)) c)
    (hn : n < UNK) (h1 : OR ι lo lo') (h2 : OR ι hi hi') (h3 : OR ι mx mx') (he : aslice (P.cellsOf e) (.slice (some a) n n) lo hi mx = some v) : Sim P ι H w (Instr.sliceAt t c lo' hi' mx') v H := by
  obtain ⟨inf, z, d, hinf, _, _, hpos, _, _, hc, _⟩ := sized_spec hz
  obtain ⟨hno, m, hh, l, hm, hhi, hlo, b1, b2, b3, hv⟩ := aslice_spec he
  simp only [VR] at hs
  obtain ⟨loc, hloc, hspot, rfl⟩ := hs
  have hcu : ¬ UNK ≤ n := by omega
  rw [capOf, if_neg hcu] at hm b3
  have hb := run_sliceBounds (P := P) false n n n n h1 h2 h3 hno hm hhi hlo b1 b2 b3 (Nat.le_refl _) rfl w
  have hmm : (if mx = none then n else m) = m := by
    split
    · rename_i hmx; subst hmx; simpa [bnd] using hm
    · rfl
  rw [hmm] at hb
  rcases hv with ⟨hcon, _⟩ | ⟨b, off, hab, hv⟩
  · cases hcon
  · simp only [Option.some.injEq] at hab
    subst hab
    have hrun : (Instr.sliceAt t (.pointer (some ⟨loc.blk, loc.δ + off, none⟩)) lo' hi' mx').run P w = .ok (.slice (some (if m = l then ⟨loc.blk, loc.δ + off, none⟩ else ⟨loc.blk, loc.δ + off + l * inf.size, none⟩)) (hh - l) (m - l)) w := by
      simp only [Instr.sliceAt, Instr.sureAddr, Sem.run_bind, run_underlying ht, Result.andThen_ok, run_sizeOf hinf, Sem.run_pure, hb, Addr.add_lit]
    rcases hv with ⟨hu, _⟩ | ⟨_, hml, rfl⟩ | ⟨_, hml, rfl⟩
    · exact absurd hu hcu
    · refine Sim.same h (c := .slice (some ⟨loc.blk, loc.δ + off, none⟩) 0 0) ?_ (by simp only [VR]; exact ⟨loc, hloc, trivial, .inl ⟨by simp [UNK], Nat.le_refl _, rfl⟩⟩)
      rw [hrun, if_pos hml]
      simp [hml]
      omega
    · refine Sim.same h (c := .slice (some ⟨loc.blk, loc.δ + (off + l * P.cellsOf e), none⟩) (hh - l) (m - l)) ?_ (by simp only [VR]; exact ⟨loc, hloc, trivial, .inl ⟨by omega, by omega, rfl⟩⟩)
      rw [hrun, if_neg hml, hc, Nat.add_assoc]

/-! ### what a slice holds -/
theorem sliceCells_rel (h : Rel ι H w) {sz : Nat} {s c : Value} {xs : List Value} {n : Nat} (hs : VR ι s c) (hx : sliceCells H sz s = some xs) (hn : alen s = some n) :
    ∃ us, VRL ι xs us ∧ xs.all one = true ∧ us.length = n * sz ∧ ((c = .slice none 0 0 ∧ n = 0 ∧ us = []) ∨ ∃ a k, c = .slice (some a) n k ∧ ∀ (j : Nat) u, us[j]? = some u → w.cell? (a.add j) = some u) := by
  unfold sliceCells at hx
  split at hx
  · simp only [VR] at hs
    simp at hx
    simp [alen] at hn
    subst hx; subst hn
    exact ⟨[], by simp [VRL], rfl, by simp, .inl ⟨hs.2.2, rfl, rfl⟩⟩
  · rename_i b off n' k
    simp [alen] at hn
    subst hn
    simp only [VR] at hs
    obtain ⟨l, hl, _, hs⟩ := hs
    obtain ⟨us, h1, h2, h3, h4, h5⟩ := rd_rel h hl hx
    refine ⟨us, h1, h4, h2, .inr ?_⟩
    have hz : n' = 0 → us = [] := fun e => by subst e; simpa using h2
    rcases hs with ⟨_, _, rfl⟩ | ⟨z, k', _, _, _, _, rfl⟩ | ⟨_, h0, a', rfl⟩ | ⟨_, h0, a', rfl⟩
    · exact ⟨_, _, rfl, fun j u hu => by rw [Addr.add_lit]; exact h5 j u hu⟩
    · exact ⟨_, _, rfl, fun j u hu => by rw [Addr.add_lit]; exact h5 j u hu⟩
    · subst h0; rw [hz rfl]; exact ⟨_, _, rfl, by simp⟩
    · subst h0; rw [hz rfl]; exact ⟨_, _, rfl, by simp⟩
  · simp at hx

/-! ### append -/
theorem run_append_nothing {t ty e : TypeId} {i : TypeInfo} (ht : P.underlying t = some (.slice e)) (hi : P.info? e = some i) (base : Option Addr) (sLen sCap : Nat) (hle : sLen ≤ sCap) (x : Value)
    (hx : x = .slice none 0 0 ∨ ∃ a k, x = .slice (some a) 0 k) (w : World) :
    (Builtin.append_ #[t, t] ty #[.slice base sLen sCap, x]).run P w = .ok (.slice base sLen sCap) w := by
  rcases hx with rfl | ⟨a, k, rfl⟩ <;> cases base <;> simp [Builtin.append_, run_underlying ht, sizeOf, typeInfo, hi, Builtin.lenOf, hle, Builtin.firstCells, loadCells, loadCellsFrom, storeCells]

theorem run_append_in {t ty e : TypeId} {i : TypeInfo} (ht : P.underlying t = some (.slice e)) (hi : P.info? e = some i) (g o sLen sCap : Nat) (a : Addr) (n c : Nat) (us : List Value) (hl : us.length = n * i.size)
    (hus : ∀ j v, us[j]? = some v → w.cell? (a.add j) = some v) (hroom : sLen + n ≤ sCap)
    (hst : (storeCells ⟨g, o + sLen * i.size, none⟩ us).run P w = .ok () (w.setCells g (o + sLen * i.size) us)) :
    (Builtin.append_ #[t, t] ty #[.slice (some ⟨g, o, none⟩) sLen sCap, .slice (some a) n c]).run P w = .ok (.slice (some ⟨g, o, none⟩) (sLen + n) sCap) (w.setCells g (o + sLen * i.size) us) := by
  have hf := run_firstCells_some (P := P) w i.size n a n c us hl hus
  simp [Builtin.append_, run_underlying ht, sizeOf, typeInfo, hi, Builtin.lenOf, hroom, hf, Addr.add_lit, hst]

theorem Stp.kill (h : Rel ι H w) {b : Nat} {cs : List Value} (hH : H[b]? = some (.cells cs false)) (hm : ∃ l, ι b = some l) : Stp ι H w ι (H.setIfInBounds b .dead) w := by
  obtain ⟨l, hb⟩ := hm
  have hlt : b < H.size := h.dom b l hb
  have hset : ∀ c, c ≠ b → (H.setIfInBounds b .dead)[c]? = H[c]? := fun c hc => Array.getElem?_setIfInBounds_ne (Ne.symm hc)
  have hself : (H.setIfInBounds b .dead)[b]? = some .dead := by simp [hlt]
  have hos : ∀ c, own (H.setIfInBounds b .dead) c → own H c := fun c ho => by
    by_cases hbc : c = b
    · subst hbc; exact .inl ⟨cs, hH⟩
    · unfold own at ho ⊢; rwa [hset c hbc] at ho
  refine ⟨⟨?_, h.bound, ?_, ?_, ?_, ?_⟩, .refl ι, fun _ _ => rfl, by simp, Nat.le_refl _, ?_, fun _ _ _ => rfl, ?_, rfl, rfl, rfl⟩
  · intro c m hc; simpa using h.dom c m hc
  · intro c m cs2 ro hc hH2
    by_cases hcb : c = b
    · subst hcb; rw [hself] at hH2; simp at hH2
    · rw [hset c hcb] at hH2; exact h.cells c m cs2 ro hc hH2
  · intro c m cs2 hc hH2
    by_cases hcb : c = b
    · subst hcb; rw [hself] at hH2; simp at hH2
    · rw [hset c hcb] at hH2; exact h.rw c m cs2 hc hH2
  · intro c m es k hc hH2
    by_cases hcb : c = b
    · subst hcb; rw [hself] at hH2; simp at hH2
    · rw [hset c hcb] at hH2; exact h.maps c m es k hc hH2
  · intro c d m n hc hd he hne ho
    by_cases hdb : d = b
    · subst hdb; exact hself
    · rw [hset d hdb]; exact h.inj c d m n hc hd he hne (hos c ho)
  · intro c _ hn
    exact hset c (fun e => by subst e; rw [hb] at hn; cases hn)
  · intro c m hc ho
    exact .inr ⟨c, m, hc, hos c ho, rfl⟩

/-- A new array, with what was and what comes, and room behind. -/
theorem Stp.grown (h : Rel ι H w) {olds uolds xs us : List Value} (e : TypeId) (sz n cap : Nat) (rest : Array Value) (h1 : olds.all one = true) (h2 : xs.all one = true) (r1 : VRL ι olds uolds) (r2 : VRL ι xs us)
    (hl : olds.length + xs.length = n * sz) (hcap : n ≤ cap) (hmax : cap ≤ 9223372036854775807) (hrest : rest.size = (cap - n) * sz) :
    ∃ ι', VR ι' (.slice (some ⟨H.size, 0, none⟩) n (UNK + sz)) (.slice (some ⟨w.heap.size, 0, none⟩) n cap) ∧
      Stp ι H w ι' (H.push (.cells (olds ++ xs) false)) (w.drew.alloc (.cells (uolds.toArray ++ us.toArray ++ rest) e)) := by
  have hr := h.drew (w.drawn + 1)
  have hsz : (uolds.toArray ++ us.toArray ++ rest).size = cap * sz := by
    have e1 := r1.length
    have e2 := r2.length
    have : n * sz + (cap - n) * sz = cap * sz := by rw [← Nat.add_mul]; congr 1; omega
    simp
    omega
  have hst := Stp.allocCells (w := w.drew) hr (olds ++ xs) (uolds.toArray ++ us.toArray ++ rest) e (by simp [List.all_append, h1, h2]) (by
      have e1 := r1.length
      have e2 := r2.length
      simp; omega) (fun i v hv => by
      obtain ⟨u, hu, huv⟩ := (r1.append r2).get hv
      refine ⟨u, ?_, huv⟩
      have hlt := (List.getElem?_eq_some_iff.1 hu).1
      have : (uolds.toArray ++ us.toArray ++ rest)[i]? = (uolds ++ us ++ rest.toList)[i]? := by
        rw [← Array.getElem?_toList]; simp
      rw [this, List.getElem?_append_left hlt]
      exact hu)
  refine ⟨_, ?_, hst.of_drew (n := w.drawn + 1)⟩
  simp only [VR]
  refine ⟨_, ext_new _ _, trivial, .inr (.inl ⟨sz, cap, rfl, hcap, hmax, ?_, rfl⟩)⟩
  simp only
  omega

theorem sim_append (h : Rel ι H w) {t ty e : TypeId} (ht : P.underlying t = some (.slice e)) (hz : sized P e = true) {s x cs cx v : Value} {H' : Heap} (hs : VR ι s cs) (hx : VR ι x cx)
    (he : aappend (P.cellsOf e) (P.bytesOf e) s x H = some (v, H')) : Sim P ι H w (Builtin.append_ #[t, t] ty #[cs, cx]) v H' := by
  obtain ⟨i, z, d, hi, hzz, _, hpos, hzs, hzp, hc, hby⟩ := sized_spec hz
  rw [hc, hby] at he
  unfold aappend at he
  split at he
  case h_2 => simp at he
  rename_i xs n hxs hn
  obtain ⟨us, u1, u2, u3, u4⟩ := sliceCells_rel h hx hxs hn
  have hxl : xs.length = n * i.size := by rw [u1.length, u3]
  have hx0 : n = 0 → cx = .slice none 0 0 ∨ ∃ a k, cx = .slice (some a) 0 k := fun h0 => by
    rcases u4 with ⟨rfl, _⟩ | ⟨a, k, rfl, _⟩
    · exact .inl rfl
    · subst h0; exact .inr ⟨a, k, rfl⟩
  -- growth
  have grow : ∀ (base : Option Addr) (sLen sCap : Nat) (olds uolds : List Value), cs = .slice base sLen sCap → (base = none → sLen = 0 ∧ sCap = 0) → 0 < n → sCap < sLen + n → fits (sLen + n) i.bytes = true → xs.all one = true →
      olds.all one = true → VRL ι olds uolds → uolds.length = sLen * i.size → (∀ a, base = some a → ∀ (j : Nat) u, uolds[j]? = some u → w.cell? (a.add j) = some u) →
      ∃ ι' w', (Builtin.append_ #[t, t] ty #[cs, cx]).run P w = .ok (.slice (some ⟨w.heap.size, 0, none⟩) (sLen + n) (grownCap w (sLen + n) sCap e)) w' ∧
        VR ι' (.slice (some ⟨H.size, 0, none⟩) (sLen + n) (UNK + i.size)) (.slice (some ⟨w.heap.size, 0, none⟩) (sLen + n) (grownCap w (sLen + n) sCap e)) ∧ Stp ι H w ι' (H.push (.cells (olds ++ xs) false)) w' := by
    intro base sLen sCap olds uolds hcs hbase hn0 hlt hfit hx1 ho1 ho2 ho3 ho4
    simp only [fits, Bool.and_eq_true, decide_eq_true_eq] at hfit
    have hge := grownCap_ge w (sLen + n) sCap e
    have hle := grownCap_le_maxLen w (sLen + n) sCap e (by simp only [maxLen]; omega)
    have hzc : (Builtin.zeroCells z.cells (grownCap w (sLen + n) sCap e - (sLen + n))).size = (grownCap w (sLen + n) sCap e - (sLen + n)) * i.size := by rw [size_zeroCells, hzs]
    obtain ⟨ι', g1, g2⟩ := Stp.grown h (w := w) e i.size (sLen + n) (grownCap w (sLen + n) sCap e) (Builtin.zeroCells z.cells (grownCap w (sLen + n) sCap e - (sLen + n))) ho1 hx1 ho2 u1
      (by rw [ho2.length, ho3, hxl, Nat.add_mul]) hge (by simpa only [maxLen] using hle) hzc
    refine ⟨ι', _, ?_, g1, g2⟩
    rcases u4 with ⟨_, h0, _⟩ | ⟨a, k, rfl, hus⟩
    · omega
    · subst hcs
      cases base with
      | none =>
        obtain ⟨rfl, rfl⟩ := hbase rfl
        have hu0 : uolds = [] := by simpa using ho3
        subst hu0
        have hr := run_append_nil (P := P) w t ty e i z ht hi hzz a n k us u3 hus hn0 (by omega) (by simp only [Nat.zero_add] at hfit; omega)
        simp only [Nat.zero_add] at hr ⊢
        rw [hr]
        simp
      | some b =>
        exact run_append_grow (P := P) w t ty e i z ht hi hzz b sLen sCap uolds ho3 (ho4 b rfl) a n k us u3 hus hlt (by omega) (growslice_fits hlt hfit.2)
  split at he
  · -- nil
    simp only [VR] at hs
    obtain ⟨_, _, rfl⟩ := hs
    split at he
    · rename_i h0
      simp at he
      obtain ⟨rfl, rfl⟩ := he
      exact Sim.same h (run_append_nothing ht hi none 0 0 (Nat.le_refl _) cx (hx0 h0) w) (by simp [VR])
    · rename_i h0
      split at he
      · rename_i hf
        simp only [Bool.and_eq_true] at hf
        simp at he
        obtain ⟨rfl, rfl⟩ := he
        obtain ⟨ι', w', g1, g2, g3⟩ := grow none 0 0 [] [] rfl (fun _ => ⟨rfl, rfl⟩) (by omega) (by omega) (by simpa using hf.1) hf.2 rfl (by simp [VRL]) (by simp) (by simp)
        simp only [Nat.zero_add, List.nil_append] at g1 g2 g3
        exact ⟨ι', _, w', g1, g2, g3⟩
      · simp at he
  · rename_i b off len cap
    simp only [VR] at hs
    obtain ⟨l, hl, _, hs⟩ := hs
    split at he
    · -- nothing comes
      rename_i h0
      simp at he
      obtain ⟨rfl, rfl⟩ := he
      have hs' : VR ι (.slice (some ⟨b, off, none⟩) len cap) cs := by simp only [VR]; exact ⟨l, hl, trivial, hs⟩
      have : ∃ base m k, cs = .slice base m k ∧ m ≤ k := by
        rcases hs with ⟨_, hle, rfl⟩ | ⟨zz, k', _, hle, _, _, rfl⟩ | ⟨_, _, a', rfl⟩ | ⟨_, _, a', rfl⟩
        · exact ⟨_, _, _, rfl, hle⟩
        · exact ⟨_, _, _, rfl, hle⟩
        · exact ⟨_, _, _, rfl, Nat.le_refl _⟩
        · exact ⟨_, _, _, rfl, Nat.le_refl _⟩
      obtain ⟨base, m, k, rfl, hmk⟩ := this
      exact Sim.same h (run_append_nothing ht hi base m k hmk cx (hx0 h0) w) hs'
    · rename_i h0
      have hn0 : 0 < n := by omega
      split at he
      · rename_i hf
        simp only [Bool.and_eq_true] at hf
        obtain ⟨hfit, hx1⟩ := hf
        split at he
        · -- a capacity that isn't known
          rename_i hunk
          split at he
          · rename_i hcap
            split at he
            · rename_i cells hH
              split at he
              · rename_i hlen
                simp only [Option.some.injEq, Prod.mk.injEq] at he
                obtain ⟨rfl, rfl⟩ := he
                have hrd : rd H b off (len * i.size) = some ((cells.drop off).take (len * i.size)) := by simp [rd, hH, hlen]
                obtain ⟨uo, o1, o2, o3, o4, o5⟩ := rd_rel h hl hrd
                have hkill := Stp.kill h hH ⟨l, hl⟩
                have hgrow : ∀ (a : Addr) (sCap : Nat), cs = .slice (some a) len sCap → sCap < len + n → (∀ (j : Nat) u, uo[j]? = some u → w.cell? (a.add j) = some u) →
                    Sim P ι H w (Builtin.append_ #[t, t] ty #[cs, cx]) (.slice (some ⟨H.size, 0, none⟩) (len + n) cap) ((H.setIfInBounds b .dead).push (.cells ((cells.drop off).take (len * i.size) ++ xs) false)) := by
                  intro a sCap hcs hlt hcell
                  have hsz : (H.setIfInBounds b .dead).size = H.size := by simp
                  simp only [fits, Bool.and_eq_true, decide_eq_true_eq] at hfit
                  have hge := grownCap_ge w (len + n) sCap e
                  have hle := grownCap_le_maxLen w (len + n) sCap e (by simp only [maxLen]; omega)
                  have hzc : (Builtin.zeroCells z.cells (grownCap w (len + n) sCap e - (len + n))).size = (grownCap w (len + n) sCap e - (len + n)) * i.size := by rw [size_zeroCells, hzs]
                  obtain ⟨ι2, k1, k2⟩ := Stp.grown hkill.rel (w := w) e i.size (len + n) (grownCap w (len + n) sCap e) (Builtin.zeroCells z.cells (grownCap w (len + n) sCap e - (len + n))) o4 hx1 o1 u1
                    (by rw [o1.length, o2, hxl, Nat.add_mul]) hge (by simpa only [maxLen] using hle) hzc
                  rw [hsz] at k1
                  have hrun : (Builtin.append_ #[t, t] ty #[cs, cx]).run P w = .ok (.slice (some ⟨w.heap.size, 0, none⟩) (len + n) (grownCap w (len + n) sCap e)) (w.drew.alloc (.cells (uo.toArray ++ us.toArray ++ Builtin.zeroCells z.cells (grownCap w (len + n) sCap e - (len + n))) e)) := by
                    subst hcs
                    rcases u4 with ⟨_, h00, _⟩ | ⟨a2, k, rfl, hus⟩
                    · omega
                    · exact run_append_grow (P := P) w t ty e i z ht hi hzz a len sCap uo o2 hcell a2 n k us u3 hus hlt (by omega) (growslice_fits hlt hfit.2)
                  exact ⟨ι2, _, _, hrun, by rw [hcap]; exact k1, hkill.trans k2⟩
                rcases hs with ⟨hk, _, _⟩ | ⟨zz, k', hk, hle, hmax, hroom, rfl⟩ | ⟨_, h00, a', rfl⟩ | ⟨hk, _, _⟩
                · omega
                · have hzi : zz = i.size := by omega
                  subst hzi
                  by_cases hin : len + n ≤ k'
                  · -- in place
                    have hroom2 : l.δ + off + len * i.size + xs.length ≤ l.tot := by
                      have : (len + n) * i.size ≤ k' * i.size := Nat.mul_le_mul_right _ hin
                      rw [Nat.add_mul] at this
                      omega
                    have hg := Stp.graft h hl hH off (len * i.size) xs us (by omega) hroom2 hx1 u1
                    obtain ⟨C, tt, fr, hC, hCs, hCl, hfr⟩ := h.rw b l cells hl hH
                    have hul := u1.length
                    have hst := run_storeCells_cells (P := P) l.blk (l.δ + off + len * i.size) us 0 w (fun j hj => by simp [World.cell?, hC]; omega)
                      (fun j hj => by
                        have := hfr (l.δ + off + len * i.size + j) (by omega)
                        simp only [World.frozen?, hC, Nat.add_zero]
                        rw [Bool.eq_false_iff]
                        simpa using this) (u1.ones hx1)
                    rcases u4 with ⟨_, h00, _⟩ | ⟨a2, k, rfl, hus⟩
                    · omega
                    · have hr := run_append_in (P := P) (ty := ty) ht hi l.blk (l.δ + off) len k' a2 n k us u3 hus hin (by simpa using hst)
                      refine ⟨_, _, _, hr, ?_, hg⟩
                      simp only [VR]
                      refine ⟨_, ext_new _ _, trivial, .inr (.inl ⟨i.size, k', hcap, hin, hmax, by simpa using hroom, by simp⟩)⟩
                  · exact hgrow _ k' rfl (by omega) (fun j u hu => by rw [Addr.add_lit]; exact o5 j u hu)
                · subst h00
                  have hu0 : uo = [] := by simpa using o2
                  exact hgrow a' 0 rfl (by omega) (by simp [hu0])
                · simp [UNK] at hunk; omega
              · simp at he
            · simp at he
          · simp at he
        · rename_i hunk
          split at he
          · -- room that is known
            rename_i hin
            split at he
            · rename_i H2 hw
              simp only [Option.some.injEq, Prod.mk.injEq] at he
              obtain ⟨rfl, rfl⟩ := he
              rcases hs with ⟨hk, hle, rfl⟩ | ⟨zz, k', hk, _, _, _, _⟩ | ⟨hk, _, _⟩ | ⟨hk, h00, _⟩
              · have hul := u1.length
                obtain ⟨g1, g2⟩ := run_wr (P := P) h hl hw u1
                rcases u4 with ⟨_, h00, _⟩ | ⟨a2, k, rfl, hus⟩
                · omega
                · have hr := run_append_in (P := P) (ty := ty) ht hi l.blk (l.δ + off) len cap a2 n k us u3 hus hin (by simpa [Nat.add_assoc] using g1)
                  refine ⟨_, _, _, hr, ?_, by simpa [Nat.add_assoc] using g2⟩
                  simp only [VR]
                  exact ⟨l, hl, trivial, .inl ⟨hk, hin, rfl⟩⟩
              · omega
              · omega
              · omega
            · simp at he
          · rename_i hin
            split at he
            · rename_i old hrd
              simp only [Option.some.injEq, Prod.mk.injEq] at he
              obtain ⟨rfl, rfl⟩ := he
              obtain ⟨uo, o1, o2, o3, o4, o5⟩ := rd_rel h hl hrd
              rcases hs with ⟨hk, hle, rfl⟩ | ⟨zz, k', hk, _, _, _, _⟩ | ⟨hk, _, _⟩ | ⟨hk, h00, a', rfl⟩
              · obtain ⟨ι', w', g1, g2, g3⟩ := grow _ len cap old uo rfl (by simp) hn0 (by omega) hfit hx1 o4 o1 o2 (fun a' ha' => by cases ha'; exact fun j u hu => by rw [Addr.add_lit]; exact o5 j u hu)
                exact ⟨ι', _, w', g1, g2, g3⟩
              · omega
              · omega
              · subst hk; subst h00
                have hu0 : uo = [] := by simpa using o2
                obtain ⟨ι', w', g1, g2, g3⟩ := grow _ 0 0 old uo rfl (by simp) hn0 (by omega) hfit hx1 o4 o1 o2 (fun a' ha' => by simp [hu0])
                exact ⟨ι', _, w', g1, g2, g3⟩
            · simp at he
      · simp at he
  · simp at he

end
end Go.Proofs.Ytohclaopcejjnaa.G
