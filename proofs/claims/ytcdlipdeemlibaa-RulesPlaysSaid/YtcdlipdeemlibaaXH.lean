/- Joined: W10 to VP3. -/
import Derived.Test.YtcdlipdeemlibaaXG
set_option linter.unusedVariables false
set_option linter.unusedSimpArgs false
namespace Go.Proofs.Ytcdlipdeemlibaa.G
open Go
set_option linter.unusedSimpArgs false
set_option linter.unusedVariables false
set_option maxRecDepth 20000
set_option maxHeartbeats 1000000
def CE (P : BitVec 32 → Bool) (a b : Cl) : Prop := a.s = b.s ∧ (P a.s = true → a.v = b.v)
theorem CE.refl (P) (a : Cl) : CE P a a := ⟨rfl, fun _ => rfl⟩
def BE (P : BitVec 32 → Bool) (a b : Bd) : Prop := a.l.length = b.l.length ∧ ∀ i : Int, CE P (a.at i) (b.at i)
def SE (a b : List Sh) : Prop := a.map (fun s => (s.cell, s.to)) = b.map (fun s => (s.cell, s.to))
structure ME (P : BitVec 32 → Bool) (m n : Mc) : Prop where
  bd : BE P m.bd n.bd
  touched : m.touched = n.touched
  shows : SE m.shows n.shows
  used : m.used = n.used
  err : m.err = n.err
  r : ∀ i, i < 8 → CE P (m.r.at i) (n.r.at i)
  pc : m.pc = n.pc
structure PO (P : BitVec 32 → Bool) (all : BitVec 32) : Prop where
  all : ∀ s, within all s = true → P s = true
  meet : ∀ a b, P (a &&& b) = true → P a = true ∧ P b = true
  zero : P 0#32 = false
structure EE (P : BitVec 32 → Bool) (E F : Me) : Prop where
  all : E.all = F.all
  tick : E.tick = F.tick
  moves : ∀ i : Int, P (oneM i) = true → E.moves.getD i.toNat 0 = F.moves.getD i.toNat 0
variable {P : BitVec 32 → Bool} {E F : Me} {m n : Mc}
theorem BE.there {a b : Bd} (h : BE P a b) (i : Int) : a.there i = b.there i := by simp only [Bd.there, h.1]
theorem Bd.at_set (b : Bd) {i : Nat} (hi : i < b.l.length) (c : Cl) (j : Int) : (b.set i c).at j = if j.toNat = i then c else b.at j := by
  simp only [Bd.at, Bd.set, List.getD_eq_getElem?_getD, List.getElem?_set]
  by_cases h : i = j.toNat
  · subst h; simp [hi]
  · simp [h, Ne.symm h]
theorem BE.put {a b : Bd} (h : BE P a b) (i : Int) {c d : Cl} (hc : CE P c d) : BE P (a.put i c) (b.put i d) := by
  refine ⟨by rw [put_len, put_len]; exact h.1, fun j => ?_⟩
  unfold Bd.put
  rw [h.there i]
  by_cases ht : b.there i = true
  · have h1 : i.toNat < b.l.length := by simp [Bd.there] at ht; omega
    rw [if_pos ht, if_pos ht, Bd.at_set _ (by rw [h.1]; exact h1), Bd.at_set _ h1]
    split
    · exact hc
    · exact h.2 j
  · rw [if_neg ht, if_neg ht]; exact h.2 j
theorem BE.show {a b : Bd} (h : BE P a b) (i : Int) {to : BitVec 32} (hc : P ((a.at i).s ||| to) = true → (a.at i).v = (b.at i).v) : BE P (a.show i to) (b.show i to) := by
  refine ⟨by rw [show_len, show_len]; exact h.1, fun j => ?_⟩
  unfold Bd.show
  rw [h.there i]
  by_cases ht : b.there i = true
  · have h1 : i.toNat < b.l.length := by simp [Bd.there] at ht; omega
    rw [if_pos ht, if_pos ht, Bd.at_set _ (by rw [h.1]; exact h1), Bd.at_set _ h1]
    split
    · exact ⟨by show _ ||| to = _ ||| to; rw [(h.2 i).1], hc⟩
    · exact h.2 j
  · rw [if_neg ht, if_neg ht]; exact h.2 j
theorem Rset {r q : Rg} (h : ∀ i, i < 8 → CE P (r.at i) (q.at i)) {k : Nat} (hk : k < 8) {c d : Cl} (hc : CE P c d) : ∀ i, i < 8 → CE P ((r.set k c).at i) ((q.set k d).at i) := by
  intro i hi
  rw [Rg.at_set _ _ _ hk, Rg.at_set _ _ _ hk]
  split
  · exact hc
  · exact h i hi
theorem named_eq (hP : PO P E.all) (hE : EE P E F) (h : ME P m n) (x : Cd) (hb : x.b < 8) : named E m x = named F n x := by
  have hr := h.r x.b hb
  unfold named
  rw [← hE.all, ← hr.1, ← h.bd.1]
  by_cases hw : within E.all (m.r.at x.b).s = false
  · rw [if_pos hw, if_pos hw]
  · rw [if_neg hw, if_neg hw, ← hr.2 (hP.all _ (by simpa using hw))]
theorem ME.setR (h : ME P m n) {k : Nat} (hk : k < 8) {c d : Cl} (hc : CE P c d) : ME P { m with r := m.r.set k c } { n with r := n.r.set k d } := ⟨h.bd, h.touched, h.shows, h.used, h.err, Rset h.r hk hc, h.pc⟩
theorem ME.put (h : ME P m n) (i : Int) {c d : Cl} (hc : CE P c d) : ME P { m with bd := m.bd.put i c, touched := m.touched ||| bit i } { n with bd := n.bd.put i d, touched := n.touched ||| bit i } := ⟨h.bd.put i hc, by show _ ||| _ = _ ||| _; rw [h.touched], h.shows, h.used, h.err, h.r, h.pc⟩
theorem CE.z (hz : P 0#32 = false) (a b : Int) : CE P ⟨a, 0#32⟩ ⟨b, 0#32⟩ := ⟨rfl, fun h => by rw [hz] at h; cases h⟩
theorem ME.fill (hz : P 0#32 = false) (start : Nat) (o1 o2 : List Int) : ∀ (k : Nat) (m n : Mc), ME P m n → ME P (fillN m start o1 k) (fillN n start o2 k)
  | 0, m, n, h => h
  | k + 1, m, n, h => (ME.fill hz start o1 o2 k m n h).put _ (CE.z hz _ _)
theorem ME.errs (h : ME P m n) (e : Nat) : ME P { m with err := e } { n with err := e } := ⟨h.bd, h.touched, h.shows, h.used, rfl, h.r, h.pc⟩
theorem SE.app {a b c d : List Sh} (h : SE a b) (k : SE c d) : SE (a ++ c) (b ++ d) := by
  unfold SE at *
  rw [List.map_append, List.map_append, h, k]
def Tell (P : BitVec 32 → Bool) (a b : List Sh) : Prop := ∀ (i : Nat) (s t : Sh), a[i]? = some s → b[i]? = some t → P s.to = true → s.v = t.v
def Join' (P : BitVec 32 → Bool) : Prop := ∀ s t, P (s ||| t) = true → P s = true ∨ P t = true
theorem ME.reveal (hP : PO P E.all) (hE : EE P E F) (h : ME P m n) (x : Cd) (hb : x.b < 8) (hj : Join' P) (ht : Tell P (revealF E m x).shows (revealF F n x).shows) : ME P (revealF E m x) (revealF F n x) := by
  have hn := named_eq hP hE h x hb
  unfold revealF at ht ⊢
  rw [← hn] at ht ⊢
  by_cases hk : (named E m x).2.1 = false
  · rw [if_pos hk, if_pos hk]; exact h.errs _
  · rw [if_neg hk, if_neg hk] at ht ⊢
    have hc := h.bd.2 (named E m x).1
    have ho : Sh.one n x F.all (named E m x).1 = Sh.one m x E.all (named E m x).1 := by unfold Sh.one; rw [← hE.all, ← hc.1]
    rw [ho] at ht ⊢
    have hlen : m.shows.length = n.shows.length := by have := congrArg List.length h.shows; simpa using this
    have hv : P (Sh.one m x E.all (named E m x).1) = true → (m.bd.at (named E m x).1).v = (n.bd.at (named E m x).1).v := fun hp => by
      have hz : Sh.one m x E.all (named E m x).1 ≠ 0#32 := fun e => by rw [e, hP.zero] at hp; cases hp
      simp only [if_neg hz] at ht
      have := ht m.shows.length ⟨(named E m x).1, Sh.one m x E.all (named E m x).1, (m.bd.at (named E m x).1).v⟩ ⟨(named E m x).1, Sh.one m x E.all (named E m x).1, (n.bd.at (named E m x).1).v⟩ (by simp) (by rw [hlen]; simp) hp
      exact this
    refine ⟨h.bd.show _ fun hp => ?_, by show _ ||| _ = _ ||| _; rw [h.touched], SE.app h.shows ?_, h.used, rfl, h.r, h.pc⟩
    · rcases hj _ _ hp with hp | hp
      · exact hc.2 hp
      · exact hv hp
    · by_cases hz : Sh.one m x E.all (named E m x).1 = 0#32
      · rw [if_pos hz, if_pos hz]; rfl
      · rw [if_neg hz, if_neg hz]; rfl
theorem ME.reach (hP : PO P E.all) (hE : EE P E F) (h : ME P m n) (x : Cd) (ha : x.a < 8) (hb : x.b < 8) (hj : x.op = 22 → Join' P) (ht : Tell P (reachF E m x).shows (reachF F n x).shows) : ME P (reachF E m x) (reachF F n x) := by
  have hn := named_eq hP hE h x hb
  unfold reachF at ht ⊢
  split
  · rw [← hn]
    split
    · exact h.setR ha (h.bd.2 _)
    · exact h.errs _
  · rw [← hn]
    split
    · exact h.put _ (h.r _ ha)
    · exact h.errs _
  · rename_i hop
    simp only [hop] at ht
    exact ME.reveal hP hE h x hb (hj hop) ht
  · have hd : ME P { m with dice := (shufL m.dice (x.c - 1) (rowV m x.n.toNat x.c)).2 } { n with dice := (shufL n.dice (x.c - 1) (rowV n x.n.toNat x.c)).2 } := ⟨h.bd, h.touched, h.shows, h.used, h.err, h.r, h.pc⟩
    exact ME.fill hP.zero _ _ _ _ _ _ hd
  · exact h
theorem CE.meet (hP : PO P E.all) {a b c d : Cl} (h : CE P a b) (k : CE P c d) (f : Int → Int → Int) : CE P ⟨f a.v c.v, a.s &&& c.s⟩ ⟨f b.v d.v, b.s &&& d.s⟩ := by
  refine ⟨by show a.s &&& c.s = b.s &&& d.s; rw [h.1, k.1], fun hp => ?_⟩
  obtain ⟨h1, h2⟩ := hP.meet _ _ hp
  show f a.v c.v = f b.v d.v
  rw [h.2 h1, k.2 h2]
theorem ME.follow (hP : PO P E.all) (hE : EE P E F) (h : ME P m n) (x : Cd) (ha : x.a < 8) (hb : x.b < 8) (hj : x.op = 22 → Join' P) (ht : Tell P (followF E m x).shows (followF F n x).shows) : ME P (followF E m x) (followF F n x) := by
  have hg : ME P m.go n.go := ⟨h.bd, h.touched, h.shows, h.used, h.err, h.r, by show m.pc + 1 = n.pc + 1; rw [h.pc]⟩
  have hc8 : x.c % 8 < 8 := by omega
  unfold followF at ht ⊢
  simp only at ht ⊢
  split
  · exact hg.setR ha (by rw [hE.all]; exact CE.refl _ _)
  · exact hg.setR ha (hg.bd.2 _)
  · exact hg.put _ (hg.r _ ha)
  · refine hg.setR ha ⟨?_, fun hp => ?_⟩
    · show _ &&& _ &&& _ = _ &&& _ &&& _
      rw [(hg.r _ ha).1, (hg.r _ hb).1, (hg.r _ hc8).1]
    · obtain ⟨h1, h2⟩ := hP.meet _ _ hp
      obtain ⟨h3, h4⟩ := hP.meet _ _ h1
      show (if _ then _ else _) = (if _ then _ else _)
      rw [(hg.r _ ha).2 h3, (hg.r _ hb).2 h4, (hg.r _ hc8).2 h2]
  · rw [← hE.all, ← (hg.r _ ha).1]
    by_cases hw : within E.all (m.go.r.at x.a).s = true
    · rw [if_pos hw, if_pos hw, ← (hg.r _ ha).2 (hP.all _ hw)]
      split
      · exact ⟨hg.bd, hg.touched, hg.shows, hg.used, hg.err, hg.r, rfl⟩
      · exact hg
    · rw [if_neg hw, if_neg hw]; exact hg.errs _
  · exact ⟨hg.bd, hg.touched, hg.shows, hg.used, hg.err, hg.r, rfl⟩
  · exact hg.setR ha ⟨rfl, fun hp => hE.moves _ hp⟩
  · have := hg.setR ha (CE.z hP.zero (below m.go.dice x.n) (below n.go.dice x.n))
    exact ⟨this.bd, this.touched, this.shows, this.used, this.err, this.r, this.pc⟩
  · exact hg.setR ha (by rw [hE.all, hE.tick]; exact CE.refl _ _)
  · rename_i hop; simp only [hop] at ht; exact ME.reach hP hE hg x ha hb hj ht
  · rename_i hop; simp only [hop] at ht; exact ME.reach hP hE hg x ha hb hj ht
  · rename_i hop; simp only [hop] at ht; exact ME.reach hP hE hg x ha hb hj ht
  · rename_i hop; simp only [hop] at ht; exact ME.reach hP hE hg x ha hb hj ht
  · exact hg.setR ha (CE.meet hP (hg.r _ hb) (hg.r _ hc8) _)
end Go.Proofs.Ytcdlipdeemlibaa.G
namespace Go.Proofs.Ytcdlipdeemlibaa.G
open Go
set_option linter.unusedSimpArgs false
set_option linter.unusedVariables false
set_option maxRecDepth 20000
set_option maxHeartbeats 1000000
variable {P : BitVec 32 → Bool} {E F : Me} {m n : Mc}
theorem Tell.pre {P : BitVec 32 → Bool} {a b c d : List Sh} (h : Tell P (a ++ c) (b ++ d)) : Tell P a b := by
  intro i s t h1 h2 h3
  refine h i s t ?_ ?_ h3
  · rw [List.getElem?_append_left (by have := List.getElem?_eq_some_iff.1 h1; exact this.1)]; exact h1
  · rw [List.getElem?_append_left (by have := List.getElem?_eq_some_iff.1 h2; exact this.1)]; exact h2
theorem reachF_shows (E : Me) (m : Mc) (x : Cd) : ∃ c, (reachF E m x).shows = m.shows ++ c := by
  unfold reachF
  split
  · split
    · exact ⟨[], (List.append_nil _).symm⟩
    · exact ⟨[], (List.append_nil _).symm⟩
  · split
    · exact ⟨[], (List.append_nil _).symm⟩
    · exact ⟨[], (List.append_nil _).symm⟩
  · unfold revealF; split
    · exact ⟨[], (List.append_nil _).symm⟩
    · exact ⟨_, rfl⟩
  · have := fillN_same x.n.toNat (shufL m.dice (x.c - 1) (rowV m x.n.toNat x.c)).1 x.c { m with dice := (shufL m.dice (x.c - 1) (rowV m x.n.toNat x.c)).2 }
    refine ⟨[], ?_⟩
    rw [List.append_nil, shuffleF]
    simp_all
  · exact ⟨[], (List.append_nil _).symm⟩
theorem followF_shows (E : Me) (m : Mc) (x : Cd) : ∃ c, (followF E m x).shows = m.shows ++ c := by
  unfold followF
  simp only
  split <;> first | exact ⟨[], (List.append_nil _).symm⟩ | exact reachF_shows E m.go x | skip
  split
  · split <;> exact ⟨[], (List.append_nil _).symm⟩
  · exact ⟨[], (List.append_nil _).symm⟩
theorem loopF_shows (E : Me) (l : List Cd) : ∀ (k : Nat) (m : Mc), ∃ c, (loopF E l k m).shows = m.shows ++ c
  | 0, m => by
    rw [loopF]; split
    · exact ⟨[], (List.append_nil _).symm⟩
    · exact ⟨[], (List.append_nil _).symm⟩
  | k + 1, m => by
    rw [loopF]
    split
    · split
      · exact ⟨[], (List.append_nil _).symm⟩
      · obtain ⟨c, hc⟩ := loopF_shows E l k (followF E { m with used := m.used + 1 } (l.getD m.pc ⟨0, 0, 0, 0, 0, 0⟩))
        obtain ⟨d, hd⟩ := followF_shows E { m with used := m.used + 1 } (l.getD m.pc ⟨0, 0, 0, 0, 0, 0⟩)
        refine ⟨d ++ c, ?_⟩
        rw [hc, hd, List.append_assoc]
    · exact ⟨[], (List.append_nil _).symm⟩
theorem ME.loop (hP : PO P E.all) (hE : EE P E F) (l : List Cd) (ha : ∀ x ∈ l, x.a < 8 ∧ x.b < 8) (hj : (∃ x ∈ l, x.op = 22) → Join' P) : ∀ (k : Nat) (m n : Mc), ME P m n → Tell P (loopF E l k m).shows (loopF F l k n).shows → ME P (loopF E l k m) (loopF F l k n)
  | 0, m, n, h, ht => by
    have hc2 : (n.err = 0 ∧ n.pc < l.length) ↔ (m.err = 0 ∧ m.pc < l.length) := by rw [h.err, h.pc]
    rw [loopF, loopF]
    by_cases hc : m.err = 0 ∧ m.pc < l.length
    · rw [if_pos hc, if_pos (hc2.2 hc)]; exact h.errs _
    · rw [if_neg hc, if_neg (fun q => hc (hc2.1 q))]; exact h
  | k + 1, m, n, h, ht => by
    have hc2 : (n.err = 0 ∧ n.pc < l.length) ↔ (m.err = 0 ∧ m.pc < l.length) := by rw [h.err, h.pc]
    rw [loopF, loopF] at ht ⊢
    by_cases hc : m.err = 0 ∧ m.pc < l.length
    · rw [if_pos hc, if_pos (hc2.2 hc)] at ht ⊢
      have hm := List.getElem_mem hc.2
      have hx : l.getD m.pc ⟨0, 0, 0, 0, 0, 0⟩ = l[m.pc] := by simp [hc.2]
      have hy : l.getD n.pc ⟨0, 0, 0, 0, 0, 0⟩ = l[m.pc] := by rw [← h.pc, hx]
      rw [hx, hy] at ht ⊢
      have hu : ME P { m with used := m.used + 1 } { n with used := n.used + 1 } := ⟨h.bd, h.touched, h.shows, by show m.used + 1 = n.used + 1; rw [h.used], h.err, h.r, h.pc⟩
      by_cases h0 : l[m.pc].op = 0
      · rw [if_pos h0, if_pos h0]; exact hu
      · rw [if_neg h0, if_neg h0] at ht ⊢
        have ht' := ht
        obtain ⟨c, hc1⟩ := loopF_shows E l k (followF E { m with used := m.used + 1 } l[m.pc])
        obtain ⟨d, hd1⟩ := loopF_shows F l k (followF F { n with used := n.used + 1 } l[m.pc])
        rw [hc1, hd1] at ht'
        exact ME.loop hP hE l ha hj k _ _ (hu.follow hP hE l[m.pc] (ha _ hm).1 (ha _ hm).2 (fun e => hj ⟨_, hm, e⟩) ht'.pre) ht
    · rw [if_neg hc, if_neg (fun q => hc (hc2.1 q))]; exact h
theorem ME.start (hE : EE P E F) {b c : Bd} (h : BE P b c) (d e : Int) : ME P (Go.Proofs.Ytcdlipdeemlibaa.G.start E b d) (Go.Proofs.Ytcdlipdeemlibaa.G.start F c e) :=
  ⟨h, rfl, rfl, rfl, rfl, fun i _ => by show CE P ((regs0 E.all).at i) ((regs0 F.all).at i); rw [hE.all]; exact CE.refl _ _, rfl⟩
structure RE (P : BitVec 32 → Bool) (r s : Rs) : Prop where
  bd : BE P r.bd s.bd
  touched : r.touched = s.touched
  shows : SE r.shows s.shows
  used : r.used = s.used
  err : r.err = s.err
theorem RE.run (hP : PO P E.all) (hE : EE P E F) (hl : E.moves.length = F.moves.length) (l : List Cd) (hj : (∃ x ∈ l, x.op = 22) → Join' P) {b c : Bd} (h : BE P b c) (d e : Int) (ht : Tell P (runF E l b d).shows (runF F l c e).shows) : RE P (runF E l b d) (runF F l c e) := by
  unfold runF at ht ⊢
  rw [← hl, ← h.1] at ht ⊢
  by_cases hR : rightL l b.l.length E.moves.length = false
  · rw [if_pos hR, if_pos hR]; exact ⟨h, rfl, rfl, rfl, rfl⟩
  · rw [if_neg hR, if_neg hR] at ht ⊢
    have hall : ∀ x ∈ l, x.a < 8 ∧ x.b < 8 := fun x hx => by
      have h2 : l.length ≤ 96 ∧ ∀ x ∈ l, x.right l.length b.l.length E.moves.length = true := by simpa [rightL] using hR
      exact (right_ab (h2.2 x hx)).2
    have hk := fun g => ME.loop hP hE l hall hj 400 _ _ (ME.start hE h d e) g
    have he : (loopF E l 400 (Go.Proofs.Ytcdlipdeemlibaa.G.start E b d)).shows = (if (loopF E l 400 (Go.Proofs.Ytcdlipdeemlibaa.G.start E b d)).err ≠ 0 then (⟨b, d, 0#64, (loopF E l 400 (Go.Proofs.Ytcdlipdeemlibaa.G.start E b d)).shows, (loopF E l 400 (Go.Proofs.Ytcdlipdeemlibaa.G.start E b d)).used, (loopF E l 400 (Go.Proofs.Ytcdlipdeemlibaa.G.start E b d)).err⟩ : Rs) else ⟨(loopF E l 400 (Go.Proofs.Ytcdlipdeemlibaa.G.start E b d)).bd, (loopF E l 400 (Go.Proofs.Ytcdlipdeemlibaa.G.start E b d)).dice, (loopF E l 400 (Go.Proofs.Ytcdlipdeemlibaa.G.start E b d)).touched, (loopF E l 400 (Go.Proofs.Ytcdlipdeemlibaa.G.start E b d)).shows, (loopF E l 400 (Go.Proofs.Ytcdlipdeemlibaa.G.start E b d)).used, 0⟩).shows := by split <;> rfl
    have hf : (loopF F l 400 (Go.Proofs.Ytcdlipdeemlibaa.G.start F c e)).shows = (if (loopF F l 400 (Go.Proofs.Ytcdlipdeemlibaa.G.start F c e)).err ≠ 0 then (⟨c, e, 0#64, (loopF F l 400 (Go.Proofs.Ytcdlipdeemlibaa.G.start F c e)).shows, (loopF F l 400 (Go.Proofs.Ytcdlipdeemlibaa.G.start F c e)).used, (loopF F l 400 (Go.Proofs.Ytcdlipdeemlibaa.G.start F c e)).err⟩ : Rs) else ⟨(loopF F l 400 (Go.Proofs.Ytcdlipdeemlibaa.G.start F c e)).bd, (loopF F l 400 (Go.Proofs.Ytcdlipdeemlibaa.G.start F c e)).dice, (loopF F l 400 (Go.Proofs.Ytcdlipdeemlibaa.G.start F c e)).touched, (loopF F l 400 (Go.Proofs.Ytcdlipdeemlibaa.G.start F c e)).shows, (loopF F l 400 (Go.Proofs.Ytcdlipdeemlibaa.G.start F c e)).used, 0⟩).shows := by split <;> rfl
    rw [← he, ← hf] at ht
    have hM := hk ht
    rw [← hM.err]
    split
    · exact ⟨h, rfl, hM.shows, hM.used, rfl⟩
    · exact ⟨hM.bd, hM.touched, hM.shows, hM.used, rfl⟩
end Go.Proofs.Ytcdlipdeemlibaa.G
namespace Go.Proofs.Ytcdlipdeemlibaa.G
open Go
set_option linter.unusedSimpArgs false
set_option linter.unusedVariables false
set_option maxRecDepth 20000
set_option maxHeartbeats 1000000
variable {b : Bd} {ns : Bool} {m : Mc} {E : Me}
structure SOk (b : Bd) (ns : Bool) (all : BitVec 32) (m : Bd) (s : Sh) : Prop where
  there : b.there s.cell = true
  to0 : s.to ≠ 0#32
  all : within s.to all = true
  was : ns = true → s.to &&& (b.at s.cell).s = 0#32 ∧ s.v = (b.at s.cell).v ∧ within s.to (m.at s.cell).s = true
def LG (m n : Bd) : Prop := ∀ i : Int, within (m.at i).s (n.at i).s = true
theorem LG.refl (m : Bd) : LG m m := fun i => within_self _
theorem SOk.grow {all : BitVec 32} {m n : Bd} {s : Sh} (h : SOk b ns all m s) (hg : ns = true → LG m n) : SOk b ns all n s :=
  ⟨h.there, h.to0, h.all, fun e => ⟨(h.was e).1, (h.was e).2.1, within_trans (h.was e).2.2 (hg e _)⟩⟩
theorem KP.lg (h : KP b true m) : LG b m.bd := by
  intro i
  by_cases hi : i.toNat < b.l.length
  · obtain ⟨c', k1, k2, k3⟩ := h.lab rfl i.toNat _ (List.getElem?_eq_getElem hi)
    have e1 : m.bd.at i = c' := by simp [Bd.at, List.getD_eq_getElem?_getD, k1]
    have e2 : b.at i = b.l[i.toNat] := by simp [Bd.at, hi]
    rw [e1, e2]; exact k3
  · have e1 : b.at i = Cl.z := by simp [Bd.at, List.getD_eq_getElem?_getD, List.getElem?_eq_none (Nat.not_lt.1 hi)]
    rw [e1]
    unfold within Cl.z; simp
theorem run_len (l : List Cd) (b : Bd) (d : Int) : (runF E l b d).bd.l.length = b.l.length := by
  unfold runF
  split
  · rfl
  · rename_i hR
    split
    · rfl
    · have hall : ∀ x ∈ l, x.right l.length b.l.length E.moves.length = true := by
        have h2 : l.length ≤ 96 ∧ ∀ x ∈ l, x.right l.length b.l.length E.moves.length = true := by simpa [rightL] using hR
        exact h2.2
      exact (KP.loop (ns := false) l hall (fun e => by cases e) 400 _ (KP.start d)).len
end Go.Proofs.Ytcdlipdeemlibaa.G
namespace Go.Proofs.Ytcdlipdeemlibaa.G
open Go
set_option linter.unusedSimpArgs false
set_option linter.unusedVariables false
set_option maxRecDepth 20000
set_option maxHeartbeats 2000000
theorem followF_mv (q q' : IV) (ms : List Int) (t : Int) (a : BitVec 32) (m : Mc) (x : Cd) : followF ⟨q, ms, t, a⟩ m x = followF ⟨q', ms, t, a⟩ m x := by
  unfold followF reachF revealF named
  rfl
theorem loopF_mv (q q' : IV) (ms : List Int) (t : Int) (a : BitVec 32) (l : List Cd) : ∀ (k : Nat) (m : Mc), loopF ⟨q, ms, t, a⟩ l k m = loopF ⟨q', ms, t, a⟩ l k m
  | 0, m => rfl
  | k + 1, m => by
    rw [loopF, loopF, followF_mv q q', loopF_mv q q' ms t a l k]
theorem runF_mv (q q' : IV) (ms : List Int) (t : Int) (a : BitVec 32) (l : List Cd) (b : Bd) (d : Int) : runF ⟨q, ms, t, a⟩ l b d = runF ⟨q', ms, t, a⟩ l b d := by
  unfold runF
  have e : start ⟨q, ms, t, a⟩ b d = start ⟨q', ms, t, a⟩ b d := rfl
  rw [e, loopF_mv q q']
def Gm.run (g : Gm) (ms : List (BitVec 32)) (b : Bd) (d t : Int) : Rs := runF (g.env ms t (.sc (.slice none 0 0))) g.code b d
theorem run_mv (g : Gm) (ms : List (BitVec 32)) (b : Bd) (d t : Int) (q : IV) : runF (g.env ms t q) g.code b d = g.run ms b d t := runF_mv _ _ _ _ _ _ _ _
def outC (r : Rs) (s : IV) : List IV := [.int .u64 (r.touched.toNat : Int), s, nI r.err]
theorem StepR_ok (g : Gm) (x y : IV) (h : GR g x y) (hr : g.right = true) (hw : ∀ c ∈ g.code, c.wf) (b : Bd) (hbk : b.ok) (d t : Int) (mv : IV) (ms : List (BitVec 32)) (hm : Ls 1 mv (ms.map m32)) :
    ∃ s, pc BI F_rules_Game_Step [.agg (gmc g x y), .agg (stc b d t), mv] = some (.tup [.agg (stc (g.run ms b d t).bd (g.run ms b d t).dice (IntKind.u32.wrap (t + 1))), .agg (outC (g.run ms b d t) s)]) ∧ Ls 3 s ((g.run ms b d t).shows.map Sh.e) := by
  obtain ⟨_, _, _, _, h96⟩ := right_48 hr
  obtain ⟨_, h1, q, s, hq, hs, rfl⟩ := Step_ok g x y h hr hw (by omega) b hbk d t mv ms hm
  rw [run_mv] at h1 hs
  exact ⟨s, h1, hs⟩
theorem PredR_ok (g : Gm) (x y : IV) (h : GR g x y) (hr : g.right = true) (hw : ∀ c ∈ g.code, c.wf) (b : Bd) (hbk : b.ok) (d t o : Int) (m : BitVec 32) :
    pc BI F_rules_Game_Predict [.agg (gmc g x y), .agg (stc b d t), .int .i64 o, m32 m] = some (.agg (stc ((g.run (g.preM o m) b d t).bd.view o) 0 (IntKind.u32.wrap (t + 1)))) := by
  obtain ⟨q, h1, _⟩ := Predict_ok g x y h hr hw b hbk d t o m
  rw [Gm.pre, run_mv] at h1
  exact h1
variable {b : Bd} {E : Me}
theorem loop_mok (l : List Cd) (hr : ∀ x ∈ l, x.right l.length b.l.length E.moves.length = true) (hE : E.ok) (hw : ∀ x ∈ l, x.wf) : ∀ (k : Nat) (m : Mc), m.ok b.l.length l.length → (loopF E l k m).bd.ok
  | 0, m, h => by
    rw [loopF]; split <;> exact h.bd
  | k + 1, m, h => by
    rw [loopF]
    split
    · rename_i hc
      have hm := List.getElem_mem hc.2
      have e : l.getD m.pc ⟨0, 0, 0, 0, 0, 0⟩ = l[m.pc] := by simp [hc.2]
      rw [e]
      split
      · exact h.bd
      · have hok' : ({ m with used := m.used + 1 } : Mc).ok b.l.length l.length := ⟨h.r, h.bd, h.len, h.pc⟩
        exact loop_mok l hr hE hw k _ (followF_nice hE hok' hc.2 l[m.pc] (hw _ hm) (hr _ hm)).1
    · exact h.bd
theorem run_bok (l : List Cd) (hE : E.ok) (hw : ∀ x ∈ l, x.wf) (b : Bd) (hb : b.ok) (d : Int) : (runF E l b d).bd.ok := by
  unfold runF
  split
  · exact hb
  · rename_i hR
    split
    · exact hb
    · have hall : ∀ x ∈ l, x.right l.length b.l.length E.moves.length = true := by
        have h2 : l.length ≤ 96 ∧ ∀ x ∈ l, x.right l.length b.l.length E.moves.length = true := by simpa [rightL] using hR
        exact h2.2
      refine loop_mok l hall hE hw 400 _ ⟨fun i hi => ?_, hb, rfl, Nat.zero_le _⟩
      have : ((start E b d).r.at i).v = 0 := by
        show ((regs0 E.all).at i).v = 0
        rw [rg_at _ hi]; simp only [regs0, List.getElem_replicate]
      rw [this]; exact I32_0
theorem step_bok (g : Gm) (hr : g.right = true) (hw : ∀ c ∈ g.code, c.wf) (ms : List (BitVec 32)) (b : Bd) (hb : b.ok) (d t : Int) : (g.run ms b d t).bd.ok := by
  obtain ⟨h1, h6, _⟩ := right_players hr
  have hE : (g.env ms t (.lst 1 true ((g.allF ms g.players.toNat).map (IV.int .i32)))).ok := ⟨.lst, allF_rng _ _ _, by show (g.allF ms g.players.toNat).length ≤ _; rw [allF_len]; omega⟩
  rw [← run_mv g ms b d t (.lst 1 true ((g.allF ms g.players.toNat).map (IV.int .i32)))]
  exact run_bok g.code hE hw b hb d
theorem step_len (g : Gm) (ms : List (BitVec 32)) (b : Bd) (d t : Int) : (g.run ms b d t).bd.l.length = b.l.length := run_len _ _ _
theorem hidS_I32 {p : List Cl × List Int} {c : Cl} (h1 : ∀ x ∈ p.1, I32 x.v) (h2 : ∀ v ∈ p.2, I32 v) (hc : I32 c.v) : (∀ x ∈ (hidS p c).1, I32 x.v) ∧ ∀ v ∈ (hidS p c).2, I32 v := by
  obtain ⟨L, R⟩ := p
  unfold hidS
  split
  · split
    · rename_i e
      simp only at e h1 h2 ⊢
      subst e
      refine ⟨fun x hx => ?_, by simp⟩
      rcases List.mem_append.1 hx with hx | hx
      · exact h1 x hx
      · simp at hx; subst hx; exact hc
    · rename_i v r e
      simp only at e h1 h2 ⊢
      subst e
      refine ⟨fun x hx => ?_, fun w hw => h2 w (by simp [hw])⟩
      rcases List.mem_append.1 hx with hx | hx
      · exact h1 x hx
      · simp at hx; subst hx; exact h2 v (by simp)
  · refine ⟨fun x hx => ?_, h2⟩
    rcases List.mem_append.1 hx with hx | hx
    · exact h1 x hx
    · simp at hx; subst hx; exact hc
theorem hid_I32 (C : List Cl) : ∀ (p : List Cl × List Int), (∀ x ∈ p.1, I32 x.v) → (∀ v ∈ p.2, I32 v) → (∀ c ∈ C, I32 c.v) → ∀ x ∈ (C.foldl hidS p).1, I32 x.v := by
  induction C with
  | nil => intro p h1 _ _; exact h1
  | cons c C ih =>
    intro p h1 h2 h3
    rw [List.foldl_cons]
    obtain ⟨k1, k2⟩ := hidS_I32 h1 h2 (h3 c (by simp))
    exact ih _ k1 k2 fun c hc => h3 c (by simp [hc])
theorem bd0_ok (g : Gm) (h : g.cells.length ≤ 48) (H : List Int) (hv : ∀ c ∈ g.cells, I32 c.v) (hH : ∀ v ∈ H, I32 v) : (g.bd0 h H).ok := by
  intro c hc
  simp only [Gm.bd0, hidB, List.take_length, List.drop_length, List.append_nil] at hc
  exact hid_I32 g.cells ([], H) (by simp) hH hv c hc
end Go.Proofs.Ytcdlipdeemlibaa.G
namespace Go.Proofs.Ytcdlipdeemlibaa.G
open Go
set_option linter.unusedSimpArgs false
set_option linter.unusedVariables false
set_option maxRecDepth 20000
set_option maxHeartbeats 2000000
theorem outC_one (r : Rs) {s : IV} (h : ione s = true) : (outC r s).all ione = true := by
  simp only [outC, List.all_cons, List.all_nil, h]; rfl
theorem out_len (r s) : (outC r s).length = 3 := rfl
theorem out_take (r s) : (outC r s).take 3 = outC r s := rfl
theorem out_0 (r s) : (outC r s).take 1 = [.int .u64 (r.touched.toNat : Int)] := rfl
theorem out_00 (r s) : ((outC r s).drop 0).take 1 = [.int .u64 (r.touched.toNat : Int)] := rfl
theorem out_1 (r s) : ((outC r s).drop 1).take 1 = [s] := rfl
theorem out_2 (r s) : ((outC r s).drop 2).take 1 = [nI r.err] := rfl
theorem out_z (r s) : isplice [IV.sc (Value.int IntKind.u64 0), IV.sc (Value.slice none 0 0), IV.sc (Value.int IntKind.i64 0)] 0 (outC r s) = outC r s := rfl
attribute [go_sem] out_len out_take out_0 out_00 out_1 out_2
attribute [go_sem ↓] out_z
end Go.Proofs.Ytcdlipdeemlibaa.G
namespace Go.Proofs.Ytcdlipdeemlibaa.G
open Go
set_option linter.unusedSimpArgs false
set_option linter.unusedVariables false
set_option maxRecDepth 20000
set_option maxHeartbeats 1000000
def clL (X : List Cl) : List IV := (X.map Cl.c).flatten
theorem clL_len (X : List Cl) : (clL X).length = X.length * 2 := by rw [clL, flat_len (cl2 X), List.length_map]
theorem clL_splice (X : List Cl) {i k : Nat} (vs : List IV) (h : i < X.length) (hk : k + vs.length ≤ 2) (c : Cl) (hc : isplice X[i].c k vs = c.c) : isplice (clL X) (i * 2 + k) vs = clL (X.set i c) := by
  have e := flat_splice (rest := []) (cl2 X) (i := i) (k := k) (vs := vs) (by simpa using h) hk
  simp only [List.append_nil, List.getElem_map] at e
  rw [clL, e, hc, clL, List.map_set]
theorem clL_pure (X : List Cl) : ipureL (clL X) = true := cl_pure X
def RawC (J : JH) (s : IV) (X : List Cl) : Prop := (X = [] ∧ s = .lst 2 true []) ∨ (X ≠ [] ∧ ∃ b, s = .sl b 0 0 X.length (UNK + 2) 2 ∧ J[b]? = some (.cells 0 (clL X) false))
theorem Clip.raw {J J' : JH} {s : IV} {X : List Cl} (h : Clip J J' s 2 (X.map Cl.c)) : RawC J' s X := by
  rcases h with ⟨h, rfl, _⟩ | ⟨h, rfl, rfl⟩
  · exact .inl ⟨List.map_eq_nil_iff.1 h, rfl⟩
  · refine .inr ⟨fun e => h (by rw [e]; rfl), J.size, by rw [List.length_map], by rw [push_get]; rfl⟩
theorem Clip.new {J J' : JH} {s : IV} {sz : Nat} {X : List (List IV)} (h : Clip J J' s sz X) : ∀ d ∈ blk s, J.size ≤ d := by
  rcases h with ⟨_, rfl, _⟩ | ⟨_, rfl, _⟩ <;> simp [blk, blkOf]
theorem RawC.fr {J J' : JH} {s : IV} {X : List Cl} {S : List Nat} (h : RawC J s X) (hf : Fr J J' S) (hs : ∀ d ∈ blk s, d ∉ S) : RawC J' s X := by
  rcases h with h | ⟨h, b, rfl, hb⟩
  · exact .inl h
  · exact .inr ⟨h, b, rfl, by rw [hf.2 b (lt_get hb) (hs b (by simp [blk, blkOf]))]; exact hb⟩
theorem RawC.low {J : JH} {s : IV} {X : List Cl} (h : RawC J s X) : ∀ d ∈ blk s, d < J.size := by
  rcases h with ⟨_, rfl⟩ | ⟨_, b, rfl, hb⟩
  · simp [blk, blkOf]
  · intro d hd; simp [blk, blkOf] at hd; subst hd; exact lt_get hb
theorem RawC.lenF {J : JH} {s : IV} {X : List Cl} (h : RawC J s X) (J2 : JH) : Go.Proofs.Ytcdlipdeemlibaa.G.lenF false s J2 = some (nI X.length, J2) := by
  rcases h with ⟨rfl, rfl⟩ | ⟨_, _, rfl, _⟩ <;> rfl
theorem RawC.get {J : JH} {s : IV} {X : List Cl} (h : RawC J s X) {i : Nat} (hi : i < X.length) : ∃ b, s = .sl b 0 0 X.length (UNK + 2) 2 ∧ J[b]? = some (.cells 0 (clL X) false) := by
  rcases h with ⟨rfl, _⟩ | h
  · cases hi
  · exact h.2
theorem RawC.frz {J : JH} {s : IV} {X : List Cl} (h : RawC J s X) : ∃ u, (∀ k, Go.Proofs.Ytcdlipdeemlibaa.G.frz J (k + 1) s = some u) ∧ Ls 2 u (X.map Cl.e) := by
  rcases h with ⟨rfl, rfl⟩ | ⟨hne, b, rfl, hb⟩
  · exact ⟨_, fun k => frz_pure _ _ rfl, .lst⟩
  · have hl : X.length = (X.map Cl.c).length := by simp
    have hr : ird J b 0 0 (X.length * 2) = some (X.map Cl.c).flatten := by
      simp only [ird, hb, true_and, Nat.zero_add, List.drop_zero]
      rw [if_pos (by rw [clL_len]; exact Nat.le_refl _), List.take_of_length_le (by rw [clL_len]; exact Nat.le_refl _)]; rfl
    refine ⟨_, fun k => frz_sl (by decide) hr (cl_pure X) (flat_one X), ?_⟩
    rw [hl, grp_flat (cl2 X), cl_mk]; exact .lst
theorem RawC.shows {J : JH} {s : IV} {X : List Cl} (h : RawC J s X) : ∀ d ∈ Go.Proofs.Ytcdlipdeemlibaa.G.shows J DEP s, d ∈ blk s := by
  rcases h with ⟨rfl, rfl⟩ | ⟨hne, b, rfl, hb⟩
  · intro d hd; rw [shows_pure J DEP rfl] at hd; cases hd
  · intro d hd
    have hr : ird J b 0 0 (X.length * 2) = some (clL X) := by
      simp only [ird, hb, true_and, Nat.zero_add, List.drop_zero]
      rw [if_pos (by rw [clL_len]; exact Nat.le_refl _), List.take_of_length_le (by rw [clL_len]; exact Nat.le_refl _)]
    rw [frz12, shows_sl hr (clL_pure X)] at hd
    exact hd
end Go.Proofs.Ytcdlipdeemlibaa.G
namespace Go.Proofs.Ytcdlipdeemlibaa.G
open Go
set_option linter.unusedSimpArgs false
set_option linter.unusedVariables false
set_option maxRecDepth 20000
set_option maxHeartbeats 1000000
theorem one_bit (p : Nat) (hp : p < 32) (i : Nat) : (oneM (p : Int)).getLsbD i = decide (i = p) := by
  rw [oneM, if_pos (by omega), Int.toNat_natCast, BitVec.getLsbD_shiftLeft, BitVec.getLsbD_one]
  rw [Bool.eq_iff_iff]; simp; omega
theorem has_bit (s : BitVec 32) (p : Nat) (hp : p < 32) : hasM s (p : Int) = s.getLsbD p := by
  unfold hasM
  cases h : s.getLsbD p with
  | true =>
    rw [bne_iff_ne]
    intro e
    have := congrArg (fun x => x.getLsbD p) e
    simp [BitVec.getLsbD_and, one_bit p hp, h] at this
  | false =>
    rw [bne_eq_false_iff_eq]
    apply BitVec.eq_of_getLsbD_eq
    intro i hi
    rw [BitVec.getLsbD_and, one_bit p hp]
    by_cases e : i = p
    · subst e; simp [h]
    · simp [e]
theorem BE.view (p : Int) (b : Bd) : BE (fun s => hasM s p) b (b.view p) := by
  refine ⟨by simp [Bd.view, Bd.map], fun j => ?_⟩
  simp only [Bd.at, Bd.view, Bd.map, List.getD_eq_getElem?_getD, List.getElem?_map]
  cases h : b.l[j.toNat]? with
  | none => exact CE.refl _ _
  | some c =>
    show CE _ c (viewC p c)
    unfold viewC
    split
    · exact CE.refl _ _
    · rename_i hn; exact ⟨rfl, fun h => absurd h hn⟩
variable {P : BitVec 32 → Bool} {E F : Me} {m n : Mc}
def Diff (P : BitVec 32 → Bool) (a b : List Sh) : Prop := ∃ (j : Nat) (s t : Sh), a[j]? = some s ∧ b[j]? = some t ∧ P s.to = true ∧ s.v ≠ t.v ∧ SE (a.take (j + 1)) (b.take (j + 1))
theorem Diff.ext {a b c d : List Sh} (h : Diff P a b) : Diff P (a ++ c) (b ++ d) := by
  obtain ⟨j, s, t, h1, h2, h3, h4, h5⟩ := h
  have l1 := (List.getElem?_eq_some_iff.1 h1).1
  have l2 := (List.getElem?_eq_some_iff.1 h2).1
  refine ⟨j, s, t, by rw [List.getElem?_append_left l1]; exact h1, by rw [List.getElem?_append_left l2]; exact h2, h3, h4, ?_⟩
  rw [List.take_append_of_le_length (by omega), List.take_append_of_le_length (by omega)]
  exact h5
end Go.Proofs.Ytcdlipdeemlibaa.G
namespace Go.Proofs.Ytcdlipdeemlibaa.G
open Go
set_option linter.unusedSimpArgs false
set_option linter.unusedVariables false
set_option maxRecDepth 20000
set_option maxHeartbeats 2000000
end Go.Proofs.Ytcdlipdeemlibaa.G
namespace Go.Proofs.Ytcdlipdeemlibaa.G
open Go
set_option linter.unusedSimpArgs false
set_option linter.unusedVariables false
set_option maxRecDepth 20000
set_option maxHeartbeats 2000000
end Go.Proofs.Ytcdlipdeemlibaa.G
namespace Go.Proofs.Ytcdlipdeemlibaa.G
open Go
set_option linter.unusedSimpArgs false
set_option linter.unusedVariables false
set_option maxRecDepth 20000
set_option maxHeartbeats 2000000
end Go.Proofs.Ytcdlipdeemlibaa.G
namespace Go.Proofs.Ytcdlipdeemlibaa.G
open Go
set_option linter.unusedSimpArgs false
set_option linter.unusedVariables false
set_option maxRecDepth 20000
set_option maxHeartbeats 2000000
theorem EE.refl (P : BitVec 32 → Bool) (E : Me) : EE P E E := ⟨rfl, rfl, fun _ _ => rfl⟩
theorem sta_eq (b c : Bd) (d t : Int) (e u : Int) : iaggEq (stc b d t) (stc c e u) = some (decide (b = c) && (decide (d = e) && decide (t = u))) := by
  have hb := b.h
  have hc := c.h
  have key : ∀ (p q : List Cl) (n m : Nat), p.length = q.length → iaggEq ((p.map Cl.c).flatten ++ [nI n, .int .u64 d, .int .u32 t]) ((q.map Cl.c).flatten ++ [nI m, .int .u64 e, .int .u32 u]) = some (decide (p = q ∧ n = m) && (decide (d = e) && decide (t = u))) := by
    intro p
    induction p with
    | nil =>
      intro q n m h
      cases q with
      | nil =>
        simp only [List.map_nil, List.flatten_nil, List.nil_append, iaggEq, if_true, Bool.and_true, true_and]
        congr 1
        rw [Bool.eq_iff_iff]; simp; omega
      | cons _ _ => simp at h
    | cons a p ih =>
      intro q n m h
      cases q with
      | nil => simp at h
      | cons b q =>
        have ih := ih q n m (by simpa using h)
        obtain ⟨av, as1⟩ := a
        obtain ⟨bv, bs1⟩ := b
        simp only [List.map_cons, List.flatten_cons, Cl.c, List.cons_append, List.nil_append, iaggEq, if_true, List.append_eq, ih, beqB]
        congr 1
        rw [Bool.eq_iff_iff]
        simp [and_assoc]
  rw [stc, stc, bdc, bdc, Bd.pad, Bd.pad, List.append_assoc, List.append_assoc]
  simp only [List.cons_append, List.nil_append]
  rw [key _ _ _ _ (by simp; omega)]
  congr 2
  rw [decide_eq_decide]
  constructor
  · rintro ⟨h1, h2⟩
    apply Bd.ext
    rw [h2] at h1
    exact List.append_cancel_right h1
  · rintro rfl
    exact ⟨rfl, rfl⟩
attribute [go_sem] sta_eq
end Go.Proofs.Ytcdlipdeemlibaa.G
namespace Go.Proofs.Ytcdlipdeemlibaa.G
open Go
set_option linter.unusedSimpArgs false
set_option linter.unusedVariables false
set_option maxRecDepth 20000
set_option maxHeartbeats 2000000
theorem shr_bit (s : BitVec 32) {o : Nat} (h : o < 32) : (((s.toNat : Int).fdiv (2 ^ o)).tmod 2 == 1) = s.getLsbD o := by
  have h1 : (s.toNat : Int).fdiv (2 ^ o) = ((s.toNat / 2 ^ o : Nat) : Int) := by
    rw [Int.fdiv_eq_ediv_of_nonneg _ (Int.pow_nonneg (by omega))]; simp
  rw [h1]
  have h2 : s.getLsbD o = decide (s.toNat / 2 ^ o % 2 = 1) := by
    rw [BitVec.getLsbD, Nat.testBit_eq_decide_div_mod_eq]
  rw [h2]
  generalize s.toNat / 2 ^ o = z
  rw [Int.tmod_eq_emod_of_nonneg (by omega), Bool.eq_iff_iff]
  simp; omega
theorem Sees_ok (c : Cl) (o : Int) : pc BI F_ref06_Sees [.agg c.c, .int .i64 o] = some (.bool (hasM c.s o)) := by
  refine pcE fn_ref06_Sees rfl fun K hK => ?_
  unfold l_ref06_Sees
  have hno : ¬ (0 ≤ o ∧ o < 32) → hasM c.s o = false := fun h => by simp [hasM, oneM, h]
  by_cases h1 : o ≥ 0
  · by_cases h2 : o < 32
    · obtain ⟨k, rfl⟩ : ∃ k : Nat, o = k := ⟨o.toNat, by omega⟩
      have hb := shr_bit c.s (o := k) (by omega)
      have hh := has_bit c.s k (by omega)
      have hm : min k 32 = k := by omega
      simp -implicitDefEqProofs only [go_sem, dnW_ite, reduceIte, Nat.reduceAdd, Nat.reduceLeDiff, Nat.reduceMul, Nat.reduceEqDiff, Int.reduceLT, Int.reduceLE, Int.reduceToNat, Nat.reduceSub, Nat.reduceLT, Int.reduceEq, BitVec.reduceOfInt, BitVec.reduceOfNat, Int.reduceGT, Int.reduceGE, Int.reduceBEq, Int.reduceBNe, Nat.reduceGT, Nat.reduceBEq, Nat.reduceBNe, Int.reduceAdd, Int.reduceSub, Int.reduceNeg, h1, h2, show ¬ (k : Int) < 0 by omega, hm]
      refine hK _ _ (frzE rfl ?_)
      rw [hh, ← hb]
      simp [itup, fdivB]
    · simp -implicitDefEqProofs only [go_sem, dnW_ite, reduceIte, Nat.reduceAdd, Nat.reduceLeDiff, Nat.reduceMul, Nat.reduceEqDiff, Int.reduceLT, Int.reduceLE, Int.reduceToNat, Nat.reduceSub, Nat.reduceLT, Int.reduceEq, BitVec.reduceOfInt, BitVec.reduceOfNat, Int.reduceGT, Int.reduceGE, Int.reduceBEq, Int.reduceBNe, Nat.reduceGT, Nat.reduceBEq, Nat.reduceBNe, Int.reduceAdd, Int.reduceSub, Int.reduceNeg, h1, h2]
      exact hK _ _ (frzE rfl (by rw [hno (by omega)]; rfl))
  · simp -implicitDefEqProofs only [go_sem, dnW_ite, reduceIte, Nat.reduceAdd, Nat.reduceLeDiff, Nat.reduceMul, Nat.reduceEqDiff, Int.reduceLT, Int.reduceLE, Int.reduceToNat, Nat.reduceSub, Nat.reduceLT, Int.reduceEq, BitVec.reduceOfInt, BitVec.reduceOfNat, Int.reduceGT, Int.reduceGE, Int.reduceBEq, Int.reduceBNe, Nat.reduceGT, Nat.reduceBEq, Nat.reduceBNe, Int.reduceAdd, Int.reduceSub, Int.reduceNeg, h1]
    exact hK _ _ (frzE rfl (by rw [hno (by omega)]; rfl))
theorem View6_ok (x : IV) (l : List Cl) (hx : Ls 2 x (l.map Cl.e)) (hb : l.length ≤ 100000) (o : Int) : ∃ u, pc BI F_ref06_View [x, .int .i64 o] = some u ∧ Ls 2 u ((l.map (viewC o)).map Cl.e) := by
  refine pcW fn_ref06_View rfl fun K hK => ?_
  unfold l_ref06_View
  simp -implicitDefEqProofs only [go_sem, dnW_ite, reduceIte, Nat.reduceAdd, Nat.reduceLeDiff, Nat.reduceMul, Nat.reduceEqDiff, Int.reduceLT, Int.reduceLE, Int.reduceToNat, Nat.reduceSub, Nat.reduceLT, Int.reduceEq, BitVec.reduceOfInt, BitVec.reduceOfNat, Int.reduceGT, Int.reduceGE, Int.reduceBEq, Int.reduceBNe, Nat.reduceGT, Nat.reduceBEq, Nat.reduceBNe, Int.reduceAdd, Int.reduceSub, Int.reduceNeg, hx.lenF, List.length_map, dn_loop]
  refine WP_range (by decide) l.length (fun i vs J => ∃ out, vs = [.int .i64 o, out, x, nI l.length, nI i] ∧ Grow J out 2 (((l.map (viewC o)).take i).map Cl.c).flatten) ?_ ⟨_, rfl, .nil⟩
  rintro i vs J ⟨out, rfl, hg⟩ hi K1 g1 g2 g3
  unfold l_ref06_View_k1
  by_cases h : i < l.length
  · have hat := fun J => hx.at (i := i) (by simpa using h) (J := J)
    simp only [List.getElem_map, Cl.e, Cl.c] at hat
    have hw1 := wrapS h (show l.length ≤ 9223372036854775807 by omega)
    have hS := Sees_ok l[i] o
    simp only [Cl.c] at hS
    have hv1 : (l.map (viewC o)).take (i + 1) = (l.map (viewC o)).take i ++ [viewC o l[i]] := by
      rw [List.take_succ_eq_append_getElem (by simpa using h)]; simp
    have hlen : ((((l.map (viewC o)).take i).map Cl.c).flatten.length + 1) ≤ 1000000 := by
      rw [flat_len (cl2 _)]; simp; omega
    have fin : ∀ (c : Cl) (J' : JH), c = viewC o l[i] → Fr J J' [] → ∀ s' J2, Grow J2 s' 2 ((((l.map (viewC o)).take i).map Cl.c).flatten ++ c.c) → K1 (.goto 1 [.int .i64 o, s', x, nI l.length, nI (i + 1)]) J2 := fun c J' hc hf s' J2 hg2 => g1 h _ _ ⟨s', rfl, by rw [hv1, ← Cl.c_flat, ← hc]; exact hg2⟩
    cases hc : hasM l[i].s o with
    | true =>
      rw [hc] at hS
      have hvc : viewC o l[i] = l[i] := by simp [viewC, hc]
      simp -implicitDefEqProofs only [go_sem, dnW_ite, reduceIte, Nat.reduceAdd, Nat.reduceLeDiff, Nat.reduceMul, Nat.reduceEqDiff, Int.reduceLT, Int.reduceLE, Int.reduceToNat, Nat.reduceSub, Nat.reduceLT, Int.reduceEq, BitVec.reduceOfInt, BitVec.reduceOfNat, Int.reduceGT, Int.reduceGE, Int.reduceBEq, Int.reduceBNe, Nat.reduceGT, Nat.reduceBEq, Nat.reduceBNe, Int.reduceAdd, Int.reduceSub, Int.reduceNeg, show ((i : Int) < (l.length : Int)) by omega, hat, dcp hS (by simp [ipureL, ipure]), l_ref06_View_k0, ipureL, ipure, grp, mkE, List.headD]
      refine WP_bind ((hg.fr0 (.push _ _ _)).app (m := 1) (ds := l[i].c) (by omega) rfl rfl rfl rfl (fits8 hlen)) fun s' J2 hs => ?_
      simp -implicitDefEqProofs only [go_sem, dnW_ite, reduceIte, Nat.reduceAdd, Nat.reduceLeDiff, Nat.reduceMul, Nat.reduceEqDiff, Int.reduceLT, Int.reduceLE, Int.reduceToNat, Nat.reduceSub, Nat.reduceLT, Int.reduceEq, BitVec.reduceOfInt, BitVec.reduceOfNat, Int.reduceGT, Int.reduceGE, Int.reduceBEq, Int.reduceBNe, Nat.reduceGT, Nat.reduceBEq, Nat.reduceBNe, Int.reduceAdd, Int.reduceSub, Int.reduceNeg, hw1]
      exact fin l[i] J hvc.symm (.refl _ _) s' J2 hs.1
    | false =>
      rw [hc] at hS
      have hvc : viewC o l[i] = ⟨0, l[i].s⟩ := by simp [viewC, hc]
      simp -implicitDefEqProofs only [go_sem, dnW_ite, reduceIte, Nat.reduceAdd, Nat.reduceLeDiff, Nat.reduceMul, Nat.reduceEqDiff, Int.reduceLT, Int.reduceLE, Int.reduceToNat, Nat.reduceSub, Nat.reduceLT, Int.reduceEq, BitVec.reduceOfInt, BitVec.reduceOfNat, Int.reduceGT, Int.reduceGE, Int.reduceBEq, Int.reduceBNe, Nat.reduceGT, Nat.reduceBEq, Nat.reduceBNe, Int.reduceAdd, Int.reduceSub, Int.reduceNeg, show ((i : Int) < (l.length : Int)) by omega, hat, dcp hS (by simp [ipureL, ipure]), l_ref06_View_k0, isplice, ipureL, ipure, grp, mkE, List.headD]
      refine WP_bind ((hg.fr0 (.push _ _ _)).app (m := 1) (ds := (⟨0, l[i].s⟩ : Cl).c) (by omega) rfl rfl rfl rfl (fits8 hlen)) fun s' J2 hs => ?_
      simp -implicitDefEqProofs only [go_sem, dnW_ite, reduceIte, Nat.reduceAdd, Nat.reduceLeDiff, Nat.reduceMul, Nat.reduceEqDiff, Int.reduceLT, Int.reduceLE, Int.reduceToNat, Nat.reduceSub, Nat.reduceLT, Int.reduceEq, BitVec.reduceOfInt, BitVec.reduceOfNat, Int.reduceGT, Int.reduceGE, Int.reduceBEq, Int.reduceBNe, Nat.reduceGT, Nat.reduceBEq, Nat.reduceBNe, Int.reduceAdd, Int.reduceSub, Int.reduceNeg, hw1]
      exact fin ⟨0, l[i].s⟩ J hvc.symm (.refl _ _) s' J2 hs.1
  · simp -implicitDefEqProofs only [go_sem, dnW_ite, reduceIte, Nat.reduceAdd, Nat.reduceLeDiff, Nat.reduceMul, Nat.reduceEqDiff, Int.reduceLT, Int.reduceLE, Int.reduceToNat, Nat.reduceSub, Nat.reduceLT, Int.reduceEq, BitVec.reduceOfInt, BitVec.reduceOfNat, Int.reduceGT, Int.reduceGE, Int.reduceBEq, Int.reduceBNe, Nat.reduceGT, Nat.reduceBEq, Nat.reduceBNe, Int.reduceAdd, Int.reduceSub, Int.reduceNeg, show ¬ ((i : Int) < (l.length : Int)) by omega]
    refine g2 _ _ ?_
    unfold l_ref06_View_k2
    simp -implicitDefEqProofs only [go_sem, dnW_ite, reduceIte, Nat.reduceAdd, Nat.reduceLeDiff, Nat.reduceMul, Nat.reduceEqDiff, Int.reduceLT, Int.reduceLE, Int.reduceToNat, Nat.reduceSub, Nat.reduceLT, Int.reduceEq, BitVec.reduceOfInt, BitVec.reduceOfNat, Int.reduceGT, Int.reduceGE, Int.reduceBEq, Int.reduceBNe, Nat.reduceGT, Nat.reduceBEq, Nat.reduceBNe, Int.reduceAdd, Int.reduceSub, Int.reduceNeg]
    rw [List.take_of_length_le (by simp; omega)] at hg
    obtain ⟨u, hu, hul⟩ := hg.frzX (cl2 _) (by decide) (cl_pure _) (flat_one _)
    rw [cl_mk] at hul
    exact hK _ _ u (hu 11) hul
theorem Same6_ok (x y : IV) (l : List Cl) (hx : Ls 2 x (l.map Cl.e)) (hy : Ls 2 y (l.map Cl.e)) (hb : l.length ≤ 100000) : pc BI F_ref06_Same [x, y] = some (.bool true) := by
  refine pcE fn_ref06_Same rfl fun K hK => ?_
  unfold l_ref06_Same
  simp -implicitDefEqProofs only [go_sem, dnW_ite, reduceIte, Nat.reduceAdd, Nat.reduceLeDiff, Nat.reduceMul, Nat.reduceEqDiff, Int.reduceLT, Int.reduceLE, Int.reduceToNat, Nat.reduceSub, Nat.reduceLT, Int.reduceEq, BitVec.reduceOfInt, BitVec.reduceOfNat, Int.reduceGT, Int.reduceGE, Int.reduceBEq, Int.reduceBNe, Nat.reduceGT, Nat.reduceBEq, Nat.reduceBNe, Int.reduceAdd, Int.reduceSub, Int.reduceNeg, hx.lenF, hy.lenF, List.length_map, bne_self_eq_false, dn_loop]
  refine WP_range (by decide) l.length (fun i vs J => vs = [x, y, nI l.length, nI i]) ?_ rfl
  rintro i vs J rfl hi K1 g1 g2 g3
  unfold l_ref06_Same_k0
  by_cases h : i < l.length
  · have hat := fun J => hx.at (i := i) (by simpa using h) (J := J)
    have hat2 := fun J => hy.at (i := i) (by simpa using h) (J := J)
    simp only [List.getElem_map, Cl.e, Cl.c] at hat hat2
    have hw1 := wrapS h (show l.length ≤ 9223372036854775807 by omega)
    simp -implicitDefEqProofs only [go_sem, dnW_ite, reduceIte, Nat.reduceAdd, Nat.reduceLeDiff, Nat.reduceMul, Nat.reduceEqDiff, Int.reduceLT, Int.reduceLE, Int.reduceToNat, Nat.reduceSub, Nat.reduceLT, Int.reduceEq, BitVec.reduceOfInt, BitVec.reduceOfNat, Int.reduceGT, Int.reduceGE, Int.reduceBEq, Int.reduceBNe, Nat.reduceGT, Nat.reduceBEq, Nat.reduceBNe, Int.reduceAdd, Int.reduceSub, Int.reduceNeg, show ((i : Int) < (l.length : Int)) by omega, hat, hat2, agg2_eq, hw1]
    exact g1 h _ _ rfl
  · simp -implicitDefEqProofs only [go_sem, dnW_ite, reduceIte, Nat.reduceAdd, Nat.reduceLeDiff, Nat.reduceMul, Nat.reduceEqDiff, Int.reduceLT, Int.reduceLE, Int.reduceToNat, Nat.reduceSub, Nat.reduceLT, Int.reduceEq, BitVec.reduceOfInt, BitVec.reduceOfNat, Int.reduceGT, Int.reduceGE, Int.reduceBEq, Int.reduceBNe, Nat.reduceGT, Nat.reduceBEq, Nat.reduceBNe, Int.reduceAdd, Int.reduceSub, Int.reduceNeg, show ¬ ((i : Int) < (l.length : Int)) by omega]
    refine g2 _ _ ?_
    unfold l_ref06_Same_k1
    simp -implicitDefEqProofs only [go_sem, dnW_ite, reduceIte, Nat.reduceAdd, Nat.reduceLeDiff, Nat.reduceMul, Nat.reduceEqDiff, Int.reduceLT, Int.reduceLE, Int.reduceToNat, Nat.reduceSub, Nat.reduceLT, Int.reduceEq, BitVec.reduceOfInt, BitVec.reduceOfNat, Int.reduceGT, Int.reduceGE, Int.reduceBEq, Int.reduceBNe, Nat.reduceGT, Nat.reduceBEq, Nat.reduceBNe, Int.reduceAdd, Int.reduceSub, Int.reduceNeg]
    exact hK _ _ (frzE rfl rfl)
theorem CloneCl_ok (f : Bool) (l : List Cl) (hb : l.length ≤ 100000) : ∃ u, pc BI F_slices_Clone_Lboard_Cell_board_Cell [.lst 2 f (l.map Cl.e)] = some u ∧ Ls 2 u (l.map Cl.e) := by
  refine pcW fn_slices_Clone_Lboard_Cell_board_Cell rfl fun K hK => ?_
  unfold l_slices_Clone_Lboard_Cell_board_Cell
  have hx : Ls 2 (.lst 2 f (l.map Cl.e)) ((l.map Cl.c).map (mkE 2)) := by rw [cl_mk]; exact .lst
  simp -implicitDefEqProofs only [go_sem, dnW_ite, reduceIte, Nat.reduceAdd, Nat.reduceLeDiff, Nat.reduceMul, Nat.reduceEqDiff, Int.reduceLT, Int.reduceLE, Int.reduceToNat, Nat.reduceSub, Nat.reduceLT, Int.reduceEq, BitVec.reduceOfInt, BitVec.reduceOfNat, Int.reduceGT, Int.reduceGE, Int.reduceBEq, Int.reduceBNe, Nat.reduceGT, Nat.reduceBEq, Nat.reduceBNe, Int.reduceAdd, Int.reduceSub, Int.reduceNeg, ipureL, grp]
  refine WP_bind (app_clip hx (by decide) (cl2 _) (flat_one _) (fits8 (by simp; omega))) fun s J1 k1 => ?_
  simp -implicitDefEqProofs only [go_sem, dnW_ite, reduceIte, Nat.reduceAdd, Nat.reduceLeDiff, Nat.reduceMul, Nat.reduceEqDiff, Int.reduceLT, Int.reduceLE, Int.reduceToNat, Nat.reduceSub, Nat.reduceLT, Int.reduceEq, BitVec.reduceOfInt, BitVec.reduceOfNat, Int.reduceGT, Int.reduceGE, Int.reduceBEq, Int.reduceBNe, Nat.reduceGT, Nat.reduceBEq, Nat.reduceBNe, Int.reduceAdd, Int.reduceSub, Int.reduceNeg]
  obtain ⟨u, hu, hul⟩ := k1.frz (by decide) (cl2 _) (cl_pure _) (flat_one _)
  rw [cl_mk] at hul
  exact hK _ _ u (hu 11) hul
theorem bdc_row (b : Bd) : (bdc b).take (b.l.length * 2) = (b.l.map Cl.c).flatten := by
  have h := b.h
  rw [bdc, Bd.pad, List.map_append, List.flatten_append, List.append_assoc, List.take_append_of_le_length (by rw [flat_len (cl2 _)]; simp), List.take_of_length_le (by rw [flat_len (cl2 _)]; simp)]
theorem Cells_ok (b : Bd) : ∃ u, pc BI F_board_Board_Cells [.agg (bdc b)] = some u ∧ Ls 2 u (b.l.map Cl.e) := by
  refine pcW fn_board_Board_Cells rfl fun K hK => ?_
  have hbl := b.h
  unfold l_board_Board_Cells
  have hsl : islice 2 (.sl 0 0 0 48 48 2) none (some (nI b.l.length)) none = some (.sl 0 0 0 b.l.length 48 2) := by
    simp [islice, ibnd, iasNat, asNat, capOf, UNK]; omega
  simp -implicitDefEqProofs only [go_sem, dnW_ite, reduceIte, Nat.reduceAdd, Nat.reduceLeDiff, Nat.reduceMul, Nat.reduceEqDiff, Int.reduceLT, Int.reduceLE, Int.reduceToNat, Nat.reduceSub, Nat.reduceLT, Int.reduceEq, BitVec.reduceOfInt, BitVec.reduceOfNat, Int.reduceGT, Int.reduceGE, Int.reduceBEq, Int.reduceBNe, Nat.reduceGT, Nat.reduceBEq, Nat.reduceBNe, Int.reduceAdd, Int.reduceSub, Int.reduceNeg, ↓hsl, bd_lt_UNK, hbl]
  have hr : ird (#[IB.cells 0 (bdc b) false] : JH) 0 0 0 (b.l.length * 2) = some (b.l.map Cl.c).flatten := by
    simp [ird, bdc_len, bdc_row]; omega
  have hfz := frz_sl (k := 11) (cap := 48) (by decide) hr (cl_pure _) (flat_one _)
  have hgl : grp 2 b.l.length (b.l.map Cl.c).flatten = b.l.map Cl.e := by
    have := grp_flat (cl2 b.l)
    rw [List.length_map, cl_mk] at this; exact this
  rw [hgl] at hfz
  obtain ⟨u, hu, hul⟩ := CloneCl_ok (b.l.length == 48 && decide (48 < UNK)) b.l (by omega)
  have hsh : ∀ d ∈ shows (#[IB.cells 0 (bdc b) false] : JH) DEP (.sl 0 0 0 b.l.length 48 2), d ∈ [0] := by
    rw [frz12, shows_sl hr (cl_pure _)]; simp
  refine WP_callG (S := [0]) (.raw hfz hsh .nil) hu fun J2 f2 z2 => ?_
  simp -implicitDefEqProofs only [go_sem, dnW_ite, reduceIte, Nat.reduceAdd, Nat.reduceLeDiff, Nat.reduceMul, Nat.reduceEqDiff, Int.reduceLT, Int.reduceLE, Int.reduceToNat, Nat.reduceSub, Nat.reduceLT, Int.reduceEq, BitVec.reduceOfInt, BitVec.reduceOfNat, Int.reduceGT, Int.reduceGE, Int.reduceBEq, Int.reduceBNe, Nat.reduceGT, Nat.reduceBEq, Nat.reduceBNe, Int.reduceAdd, Int.reduceSub, Int.reduceNeg]
  exact hK _ _ u (frzP hul.pure) hul
def st3 (x : IV) (d t : Int) : List IV := [x, .int .u64 d, .int .u32 t]
theorem rSame_ok (x y : IV) (l : List Cl) (hx : Ls 2 x (l.map Cl.e)) (hy : Ls 2 y (l.map Cl.e)) (hb : l.length ≤ 100000) (d t : Int) : pc BI F_ref10_Same [.agg (st3 x d t), .agg (st3 y d t)] = some (.bool true) := by
  refine pcE fn_ref10_Same rfl fun K hK => ?_
  unfold l_ref10_Same st3
  simp -implicitDefEqProofs only [go_sem, dnW_ite, reduceIte, Nat.reduceAdd, Nat.reduceLeDiff, Nat.reduceMul, Nat.reduceEqDiff, Int.reduceLT, Int.reduceLE, Int.reduceToNat, Nat.reduceSub, Nat.reduceLT, Int.reduceEq, BitVec.reduceOfInt, BitVec.reduceOfNat, Int.reduceGT, Int.reduceGE, Int.reduceBEq, Int.reduceBNe, Nat.reduceGT, Nat.reduceBEq, Nat.reduceBNe, Int.reduceAdd, Int.reduceSub, Int.reduceNeg, ↓hx.one, ↓hy.one, dcp (Same6_ok x y l hx hy hb) (by simp [ipureL, hx.pure, hy.pure]), beq_self_eq_true]
  exact hK _ _ (frzE rfl rfl)
theorem like_ok (b : Bd) (d t : Int) (x : IV) (hx : Ls 2 x (b.l.map Cl.e)) : pc BI F_law10_like [.agg (stc b d t), .agg (st3 x d t)] = some (.bool true) := by
  refine pcE fn_law10_like rfl fun K hK => ?_
  have hbl := b.h
  obtain ⟨u, hu, hul⟩ := Cells_ok b
  obtain ⟨v, hv, hvl⟩ := cells10_ok u b.l hul (by omega)
  have hS := rSame_ok v x b.l hvl hx (by omega) d t
  unfold st3 at *
  unfold l_law10_like
  simp -implicitDefEqProofs only [go_sem, dnW_ite, reduceIte, Nat.reduceAdd, Nat.reduceLeDiff, Nat.reduceMul, Nat.reduceEqDiff, Int.reduceLT, Int.reduceLE, Int.reduceToNat, Nat.reduceSub, Nat.reduceLT, Int.reduceEq, BitVec.reduceOfInt, BitVec.reduceOfNat, Int.reduceGT, Int.reduceGE, Int.reduceBEq, Int.reduceBNe, Nat.reduceGT, Nat.reduceBEq, Nat.reduceBNe, Int.reduceAdd, Int.reduceSub, Int.reduceNeg, ↓hx.one, dcp hu (by simp [ipureL, ipure, bdc_pure]), dcp hv (by simp [ipureL, hul.pure]), ↓hvl.one, ↓hvl.icells, dcp hS (by simp [ipureL, ipure, hvl.pure, hx.pure])]
  exact hK _ _ (frzE rfl rfl)
theorem rView_ok (x : IV) (l : List Cl) (hx : Ls 2 x (l.map Cl.e)) (hb : l.length ≤ 100000) (d t o : Int) : ∃ y, pc BI F_ref10_View [.agg (st3 x d t), .int .i64 o] = some (.agg (st3 y 0 t)) ∧ Ls 2 y ((l.map (viewC o)).map Cl.e) := by
  obtain ⟨y, hy, hyl⟩ := View6_ok x l hx hb o
  refine ⟨y, ?_, hyl⟩
  refine pcE fn_ref10_View rfl fun K hK => ?_
  unfold l_ref10_View st3
  simp -implicitDefEqProofs only [go_sem, dnW_ite, reduceIte, Nat.reduceAdd, Nat.reduceLeDiff, Nat.reduceMul, Nat.reduceEqDiff, Int.reduceLT, Int.reduceLE, Int.reduceToNat, Nat.reduceSub, Nat.reduceLT, Int.reduceEq, BitVec.reduceOfInt, BitVec.reduceOfNat, Int.reduceGT, Int.reduceGE, Int.reduceBEq, Int.reduceBNe, Nat.reduceGT, Nat.reduceBEq, Nat.reduceBNe, Int.reduceAdd, Int.reduceSub, Int.reduceNeg, ↓hx.one, dcp hy (by simp [ipureL, ipure, hx.pure]), ↓hyl.one, ↓hyl.icells]
  exact hK _ _ (frzE (by simp [itup, ipure, ipureL, hyl.pure]) rfl)
end Go.Proofs.Ytcdlipdeemlibaa.G
namespace Go.Proofs.Ytcdlipdeemlibaa.G
open Go
set_option linter.unusedSimpArgs false
set_option linter.unusedVariables false
set_option maxRecDepth 20000
theorem u64_rng (z : Int) : 0 ≤ IntKind.u64.wrap z ∧ IntKind.u64.wrap z < 18446744073709551616 := by
  simp only [IntKind.wrap, IntKind.bits, IntKind.signed]; simp; omega
theorem tdiv_pow {a : Int} (h0 : 0 ≤ a) (h1 : a < 18446744073709551616) (k : Nat) (hk : k ≤ 64) (c : Int) (hc : c = 2 ^ k) : IntKind.u64.wrap (a.tdiv c) = a.fdiv (2 ^ min k 64) := by
  subst hc
  rw [Nat.min_eq_left hk, Int.tdiv_eq_ediv_of_nonneg h0, Int.fdiv_eq_ediv_of_nonneg _ (Int.pow_nonneg (by omega))]
  have h2 : (0 : Int) < 2 ^ k := Int.pow_pos (by omega)
  have h3 : 0 ≤ a / 2 ^ k := Int.ediv_nonneg h0 (Int.le_of_lt h2)
  have h4 : a / 2 ^ k ≤ a := Int.ediv_le_self _ h0
  exact wrap_u64 h3 (by omega)
theorem xor64e (a b : Int) : abin .xor (.int .u64 a) (.int .u64 b) = some (.int .u64 (x64 a b)) := rfl
def mixS (k : Nat) (z : Int) : Int := x64 z (z.fdiv (2 ^ min k 64))
theorem mixF_eq (a : Int) : mixF a = mixS 31 (IntKind.u64.wrap (mixS 27 (IntKind.u64.wrap (mixS 30 a * 13787848793156543929)) * 10723151780598845931)) := rfl
theorem mix_step (k : Nat) (hk : k ≤ 64) (c : Int) (hc : c = 2 ^ k) (hc0 : c ≠ 0) {a : Int} (h0 : 0 ≤ a) (h1 : a < 18446744073709551616) (k' : L) (rho : List IV) (i : Operand) (hi : evI rho i = .int .u64 a) (q : Operand) (hq : ∀ v, evI (rho ++ [v]) q = v) (hi2 : ∀ v, evI (rho ++ [v]) i = .int .u64 a) (J : JH) (K : Out IV → JH → Prop)
    (h : WP (dn BI k' (rho ++ [.int .u64 (a.fdiv (2 ^ min k 64))] ++ [.int .u64 (mixS k a)]) J) K) : WP (dn BI (o (.bin .quo i (.const (.int .u64 c))) <| o (.bin .xor i q) k') rho J) K := by
  have e := tdiv_pow h0 h1 k hk c hc
  simp -implicitDefEqProofs only [go_sem, dnW_ite, reduceIte, Nat.reduceAdd, Nat.reduceLeDiff, Nat.reduceMul, Nat.reduceEqDiff, Int.reduceLT, Int.reduceLE, Int.reduceToNat, Nat.reduceSub, Nat.reduceLT, Int.reduceEq, BitVec.reduceOfInt, BitVec.reduceOfNat, Int.reduceGT, Int.reduceGE, Int.reduceBEq, Int.reduceBNe, Nat.reduceGT, Nat.reduceBEq, Nat.reduceBNe, Int.reduceAdd, Int.reduceSub, Int.reduceNeg, hi, hc0, e, hi2, hq, ↓xor64e]
  exact h
theorem x64_rng (a b : Int) : 0 ≤ x64 a b ∧ x64 a b < 18446744073709551616 := u64_rng _
theorem rNext_ok (s : Int) : pc BI F_ref03_Next [.int .u64 s] = some (.tup [.int .u32 (nx s), .int .u64 (sn s)]) := by
  refine pcE fn_ref03_Next rfl fun K hK => ?_
  have hs := u64_rng (s + 11400714819323198485)
  have hK' : ∀ J', K (.ret [.int .u32 (IntKind.u32.wrap ((mixF (sn s)).fdiv (2 ^ min 32 64))), .int .u64 (sn s)]) J' := fun J' => hK _ _ (frzE rfl rfl)
  unfold l_ref03_Next
  have hadd : ∀ k, WP (dn BI k [.int .u64 s, .int .u64 (sn s)] #[]) K → WP (dn BI (o (.bin .add (.tmp 0) (.const (.int .u64 11400714819323198485))) k) [.int .u64 s] #[]) K := fun k h => by
    simp -implicitDefEqProofs only [go_sem, dnW_ite, reduceIte, Nat.reduceAdd, Nat.reduceLeDiff, Nat.reduceMul, Nat.reduceEqDiff, Int.reduceLT, Int.reduceLE, Int.reduceToNat, Nat.reduceSub, Nat.reduceLT, Int.reduceEq, BitVec.reduceOfInt, BitVec.reduceOfNat, Int.reduceGT, Int.reduceGE, Int.reduceBEq, Int.reduceBNe, Nat.reduceGT, Nat.reduceBEq, Nat.reduceBNe, Int.reduceAdd, Int.reduceSub, Int.reduceNeg]
    exact h
  refine hadd _ ?_
  have hs' : 0 ≤ sn s ∧ sn s < 18446744073709551616 := hs
  generalize sn s = a at *
  refine mix_step 30 (by omega) _ rfl (by decide) hs'.1 hs'.2 _ _ _ rfl _ (fun v => rfl) (fun v => rfl) _ _ ?_
  rw [mixF_eq] at hK'
  have hm1 : ∀ (z c : Int) k rho i, evI rho i = .int .u64 z → WP (dn BI k (rho ++ [.int .u64 (IntKind.u64.wrap (z * c))]) #[]) K → WP (dn BI (o (.bin .mul i (.const (.int .u64 c))) k) rho #[]) K := fun z c k rho i hi h => by
    simp -implicitDefEqProofs only [go_sem, dnW_ite, reduceIte, Nat.reduceAdd, Nat.reduceLeDiff, Nat.reduceMul, Nat.reduceEqDiff, Int.reduceLT, Int.reduceLE, Int.reduceToNat, Nat.reduceSub, Nat.reduceLT, Int.reduceEq, BitVec.reduceOfInt, BitVec.reduceOfNat, Int.reduceGT, Int.reduceGE, Int.reduceBEq, Int.reduceBNe, Nat.reduceGT, Nat.reduceBEq, Nat.reduceBNe, Int.reduceAdd, Int.reduceSub, Int.reduceNeg, hi]
    exact h
  generalize mixS 30 a = b at *
  refine hm1 b _ _ _ _ rfl ?_
  have hb := u64_rng (b * 13787848793156543929)
  generalize IntKind.u64.wrap (b * 13787848793156543929) = b2 at *
  refine mix_step 27 (by omega) _ rfl (by decide) hb.1 hb.2 _ _ _ rfl _ (fun v => rfl) (fun v => rfl) _ _ ?_
  generalize mixS 27 b2 = c at *
  refine hm1 c _ _ _ _ rfl ?_
  have hc := u64_rng (c * 10723151780598845931)
  generalize IntKind.u64.wrap (c * 10723151780598845931) = c2 at *
  refine mix_step 31 (by omega) _ rfl (by decide) hc.1 hc.2 _ _ _ rfl _ (fun v => rfl) (fun v => rfl) _ _ ?_
  have hd : 0 ≤ mixS 31 c2 ∧ mixS 31 c2 < 18446744073709551616 := x64_rng _ _
  generalize mixS 31 c2 = e at *
  have e4 := tdiv_pow hd.1 hd.2 32 (by omega) 4294967296 rfl
  simp -implicitDefEqProofs only [go_sem, dnW_ite, reduceIte, Nat.reduceAdd, Nat.reduceLeDiff, Nat.reduceMul, Nat.reduceEqDiff, Int.reduceLT, Int.reduceLE, Int.reduceToNat, Nat.reduceSub, Nat.reduceLT, Int.reduceEq, BitVec.reduceOfInt, BitVec.reduceOfNat, Int.reduceGT, Int.reduceGE, Int.reduceBEq, Int.reduceBNe, Nat.reduceGT, Nat.reduceBEq, Nat.reduceBNe, Int.reduceAdd, Int.reduceSub, Int.reduceNeg, e4]
  exact hK' _
theorem rBelow_ok (s n : Int) (h0 : 0 ≤ n) (h1 : n < 4294967296) : pc BI F_ref03_Below [.int .u64 s, .int .u32 n] = some (.tup [.int .u32 (below s n), .int .u64 (sn s)]) := by
  refine pcE fn_ref03_Below rfl fun K hK => ?_
  unfold l_ref03_Below
  have hdef : below s n = IntKind.u32.wrap ((IntKind.u64.wrap (IntKind.u64.wrap (nx s) * IntKind.u64.wrap n)).fdiv (2 ^ min 32 64)) := rfl
  have e3 : ∀ z, IntKind.u64.wrap ((IntKind.u64.wrap z).tdiv 4294967296) = (IntKind.u64.wrap z).fdiv (2 ^ min (Int.toNat 32) 64) := fun z => tdiv_pow (u64_rng z).1 (u64_rng z).2 32 (by omega) _ rfl
  simp -implicitDefEqProofs only [go_sem, dnW_ite, reduceIte, Nat.reduceAdd, Nat.reduceLeDiff, Nat.reduceMul, Nat.reduceEqDiff, Int.reduceLT, Int.reduceLE, Int.reduceToNat, Nat.reduceSub, Nat.reduceLT, Int.reduceEq, BitVec.reduceOfInt, BitVec.reduceOfNat, Int.reduceGT, Int.reduceGE, Int.reduceBEq, Int.reduceBNe, Nat.reduceGT, Nat.reduceBEq, Nat.reduceBNe, Int.reduceAdd, Int.reduceSub, Int.reduceNeg, dcp (rNext_ok s) rfl, ↓e3]
  exact hK _ _ (frzE rfl (by rw [hdef]; rfl))
def rsH (ys : List Int) : JH := #[IB.cells 0 (ys.map (IV.int .i32)) false]
theorem int_take1 {ys : List Int} {i : Nat} (h : i < ys.length) : ((ys.map (IV.int .i32)).drop i).take 1 = [IV.int .i32 (ys.getD i 0)] := by
  rw [List.drop_eq_getElem_cons (by simpa using h)]
  simp [h]
theorem rshuffle_step (n : Nat) (hb : n ≤ 1000000) (i : Nat) (s kk : Int) (ys : List Int) (hl : ys.length = n) (hi : i + 1 < n) (h0 : 0 ≤ kk) (hk : kk.toNat < n) (hB : pc BI F_ref03_Below [.int .u64 s, .int .u32 ((i : Int) + 2)] = some (.tup [.int .u32 kk, .int .u64 (sn s)])) (K : Out IV → JH → Prop)
    (hK : K (.goto 1 [.int .u64 (sn s), .sl 0 0 0 n (UNK + 1) 1, nI (i + 1)]) (rsH ((ys.set (i + 1) (ys.getD kk.toNat 0)).set kk.toNat (ys.getD (i + 1) 0)))) :
    WP (dn BI l_ref03_Shuffle_k0 [.int .u64 s, .sl 0 0 0 n (UNK + 1) 1, nI (i + 1 + 1)] (rsH ys)) K := by
  have hw1 : IntKind.u32.wrap ((i + 2 : Nat) : Int) = (i : Int) + 2 := by rw [wrap_u32 (by omega) (by omega)]; omega
  have hw2 : IntKind.i64.wrap (((i + 2 : Nat) : Int) - 1) = ((i + 1 : Nat) : Int) := by rw [wrap_i64 (by omega) (by omega)]; omega
  have t1 := int_take1 (ys := ys) (i := i + 1) (by omega)
  have t2 := int_take1 (ys := ys) (i := kk.toNat) (by omega)
  have q1 : isplice (ys.map (IV.int .i32)) (i + 1) [IV.int .i32 (ys.getD kk.toNat 0)] = (ys.set (i + 1) (ys.getD kk.toNat 0)).map (IV.int .i32) := isplice_ints (by omega)
  have q2 : isplice ((ys.set (i + 1) (ys.getD kk.toNat 0)).map (IV.int .i32)) kk.toNat [IV.int .i32 (ys.getD (i + 1) 0)] = ((ys.set (i + 1) (ys.getD kk.toNat 0)).set kk.toNat (ys.getD (i + 1) 0)).map (IV.int .i32) := isplice_ints (by simp; omega)
  unfold l_ref03_Shuffle_k0 rsH at *
  simp -implicitDefEqProofs only [go_sem, dnW_ite, reduceIte, Nat.reduceAdd, Nat.reduceLeDiff, Nat.reduceMul, Nat.reduceEqDiff, Int.reduceLT, Int.reduceLE, Int.reduceToNat, Nat.reduceSub, Nat.reduceLT, Int.reduceEq, BitVec.reduceOfInt, BitVec.reduceOfNat, Int.reduceGT, Int.reduceGE, Int.reduceBEq, Int.reduceBNe, Nat.reduceGT, Nat.reduceBEq, Nat.reduceBNe, Int.reduceAdd, Int.reduceSub, Int.reduceNeg, show ((i + 2 : Nat) : Int) > 1 by omega, hw1, hw2, dcp hB rfl, h0, hk, hi, hl, t1, t2, q1, q2, show i + 2 ≤ n by omega, show kk.toNat + 1 ≤ n by omega]
  exact hK
theorem rShuffle_ok (f : Bool) (s : Int) (xs : List Int) (hne : xs ≠ []) (hb : xs.length ≤ 1000000) :
    ∃ u, pc BI F_ref03_Shuffle [.int .u64 s, .lst 1 f (xs.map (IV.int .i32))] = some (.tup [u, .int .u64 (shufL s (xs.length - 1) xs).2]) ∧ Ls 1 u ((shufL s (xs.length - 1) xs).1.map (IV.int .i32)) := by
  have hpos : 0 < xs.length := List.length_pos_iff.2 hne
  have key : ∃ w, pc BI F_ref03_Shuffle [.int .u64 s, .lst 1 f (xs.map (IV.int .i32))] = some w ∧ ∃ u, w = .tup [u, .int .u64 (shufL s (xs.length - 1) xs).2] ∧ Ls 1 u ((shufL s (xs.length - 1) xs).1.map (IV.int .i32)) := by
    refine pcW fn_ref03_Shuffle rfl fun K hK => ?_
    have hone : (xs.map (IV.int .i32)).all ione = true := ints_ione
    have hcl : (xs.map (IV.int .i32)).flatMap icells = xs.map (IV.int .i32) := ints_cells _
    have ha : appF 1 4 (.lst 1 true []) (.lst 1 f (xs.map (IV.int .i32))) #[] = some (.sl 0 0 0 xs.length (UNK + 1) 1, rsH xs) := by
      have hfit : fits xs.length 4 = true := fits4 hb
      simp [appF, iappend, iscells, hcl, ilen, show ¬ xs = [] from hne, hfit, hone, rsH]
    unfold l_ref03_Shuffle
    simp -implicitDefEqProofs only [go_sem, dnW_ite, reduceIte, Nat.reduceAdd, Nat.reduceLeDiff, Nat.reduceMul, Nat.reduceEqDiff, Int.reduceLT, Int.reduceLE, Int.reduceToNat, Nat.reduceSub, Nat.reduceLT, Int.reduceEq, BitVec.reduceOfInt, BitVec.reduceOfNat, Int.reduceGT, Int.reduceGE, Int.reduceBEq, Int.reduceBNe, Nat.reduceGT, Nat.reduceBEq, Nat.reduceBNe, Int.reduceAdd, Int.reduceSub, Int.reduceNeg, ipureL, grp, ↓ha, dn_loop]
    have hl2 : (shufL s (xs.length - 1) xs).1.length = xs.length := shufL_len _ _ _
    refine WP_loop (by decide) (fun m vs J => ∃ t ys, vs = [.int .u64 t, .sl 0 0 0 xs.length (UNK + 1) 1, nI (m + 1)] ∧ J = rsH ys ∧ ys.length = xs.length ∧ m < xs.length ∧ shufL t m ys = shufL s (xs.length - 1) xs) ?_ (xs.length - 1) _ _ ⟨s, xs, by rw [Nat.sub_add_cancel hpos], rfl, rfl, by omega, rfl⟩
    rintro m vs J ⟨t, ys, rfl, rfl, hl, hm, he⟩ K1 g1 g2 g3
    cases m with
    | zero =>
      unfold l_ref03_Shuffle_k0
      simp -implicitDefEqProofs only [go_sem, dnW_ite, reduceIte, Nat.reduceAdd, Nat.reduceLeDiff, Nat.reduceMul, Nat.reduceEqDiff, Int.reduceLT, Int.reduceLE, Int.reduceToNat, Nat.reduceSub, Nat.reduceLT, Int.reduceEq, BitVec.reduceOfInt, BitVec.reduceOfNat, Int.reduceGT, Int.reduceGE, Int.reduceBEq, Int.reduceBNe, Nat.reduceGT, Nat.reduceBEq, Nat.reduceBNe, Int.reduceAdd, Int.reduceSub, Int.reduceNeg, show ¬ ((0 + 1 : Nat) : Int) > 1 by omega]
      refine g2 _ _ ?_
      unfold l_ref03_Shuffle_k1
      simp -implicitDefEqProofs only [go_sem, dnW_ite, reduceIte, Nat.reduceAdd, Nat.reduceLeDiff, Nat.reduceMul, Nat.reduceEqDiff, Int.reduceLT, Int.reduceLE, Int.reduceToNat, Nat.reduceSub, Nat.reduceLT, Int.reduceEq, BitVec.reduceOfInt, BitVec.reduceOfNat, Int.reduceGT, Int.reduceGE, Int.reduceBEq, Int.reduceBNe, Nat.reduceGT, Nat.reduceBEq, Nat.reduceBNe, Int.reduceAdd, Int.reduceSub, Int.reduceNeg]
      rw [shufL] at he
      rw [← he] at hK hl2
      have hr : RawX (rsH ys) (.sl 0 0 0 xs.length (UNK + 1) 1) 1 (ones .i32 ys) := ⟨0, 0, UNK + 1, by rw [ones_len, hl], by rw [ones_flat]; rfl⟩
      obtain ⟨u, hu, hul⟩ := hr.frz (by decide) (ones_1 _ _) (by rw [ones_flat]; exact ints_pure) (by rw [ones_flat]; exact ints_ione)
      rw [ones_mk] at hul
      refine hK _ _ (.tup [u, .int .u64 t]) (frz_tupL (k := 11) ?_) ⟨u, rfl, hul⟩
      rw [List.mapM_cons, List.mapM_cons, hu 10, frz_pure (v := .int .u64 t) _ _ rfl]
      rfl
    | succ i =>
      obtain ⟨hr0, hr1⟩ := below_rng t ((i : Int) + 2) (by omega) (by omega)
      rw [shufL] at he
      refine rshuffle_step xs.length hb i t (below t ((i : Int) + 2)) ys hl hm hr0 (by omega) (rBelow_ok t ((i : Int) + 2) (by omega) (by omega)) K1 ?_
      exact g1 _ i _ (by omega) ⟨_, _, rfl, rfl, by simpa using hl, by omega, he⟩
  obtain ⟨w, h1, u, rfl, h2⟩ := key
  exact ⟨u, h1, h2⟩
end Go.Proofs.Ytcdlipdeemlibaa.G
namespace Go.Proofs.Ytcdlipdeemlibaa.G
open Go
set_option linter.unusedSimpArgs false
set_option linter.unusedVariables false
set_option maxRecDepth 20000
set_option maxHeartbeats 1000000
variable {E : Me} {J : JH} {b : Nat} {m : Mc} {xc sh : IV}
def sc9 (E : Me) (m : Mc) (xc sh : IV) : List IV := [xc, .int .u64 m.dice, .int .u64 (m.touched.toNat : Int), sh, nI m.used, nI m.err] ++ (rgc m.r ++ [nI m.pc, E.mv, .int .u32 E.tick, m32 E.all])
theorem s9_len (E m xc sh) : (sc9 E m xc sh).length = 26 := by simp [sc9, rgc_len]
theorem s9_res (E m xc sh) : (sc9 E m xc sh).take 6 = [xc, .int .u64 m.dice, .int .u64 (m.touched.toNat : Int), sh, nI m.used, nI m.err] := rfl
theorem s9_0 (E m xc sh) : (sc9 E m xc sh).take 1 = [xc] := rfl
theorem s9_1 (E m xc sh) : ((sc9 E m xc sh).drop 1).take 1 = [.int .u64 m.dice] := rfl
theorem s9_2 (E m xc sh) : ((sc9 E m xc sh).drop 2).take 1 = [.int .u64 (m.touched.toNat : Int)] := rfl
theorem s9_3 (E m xc sh) : ((sc9 E m xc sh).drop 3).take 1 = [sh] := rfl
theorem s9_4 (E m xc sh) : ((sc9 E m xc sh).drop 4).take 1 = [nI m.used] := rfl
theorem s9_5 (E m xc sh) : ((sc9 E m xc sh).drop 5).take 1 = [nI m.err] := rfl
theorem s9_r (E m xc sh) {i : Nat} (h : i < 8) : ((sc9 E m xc sh).drop (6 + i * 2)).take 2 = [.int .i32 (m.r.at i).v, m32 (m.r.at i).s] := by
  rw [sc9, app_ld (n := 6) rfl, List.drop_append_of_le_length (by rw [rgc_len]; omega), List.take_append_of_le_length (by rw [List.length_drop, rgc_len]; omega), rgc_at _ h]; rfl
theorem s9_rv (E m xc sh) {i : Nat} (h : i < 8) : ((sc9 E m xc sh).drop (6 + i * 2)).take 1 = [.int .i32 (m.r.at i).v] := by
  have := congrArg (List.take 1) (s9_r E m xc sh h)
  rw [List.take_take] at this; exact this
theorem s9_rs (E m xc sh) {i : Nat} (h : i < 8) : ((sc9 E m xc sh).drop (6 + i * 2 + 1)).take 1 = [m32 (m.r.at i).s] := by
  have := congrArg (List.drop 1) (s9_r E m xc sh h)
  rw [List.drop_take, List.drop_drop] at this; exact this
theorem s9_tl (E m xc sh) (k : Nat) : (sc9 E m xc sh).drop (22 + k) = [nI m.pc, E.mv, .int .u32 E.tick, m32 E.all].drop k := by
  rw [sc9, ← List.append_assoc, app_ld (n := 22) (by simp [rgc_len])]
theorem s9_22 (E m xc sh) : ((sc9 E m xc sh).drop 22).take 1 = [nI m.pc] := by rw [s9_tl E m xc sh 0]; rfl
theorem s9_23 (E m xc sh) : ((sc9 E m xc sh).drop 23).take 1 = [E.mv] := by rw [s9_tl E m xc sh 1]; rfl
theorem s9_24 (E m xc sh) : ((sc9 E m xc sh).drop 24).take 1 = [.int .u32 E.tick] := by rw [s9_tl E m xc sh 2]; rfl
theorem s9_25 (E m xc sh) : ((sc9 E m xc sh).drop 25).take 1 = [m32 E.all] := by rw [s9_tl E m xc sh 3]; rfl
theorem t9_0 (E m xc sh) (y : IV) : isplice (sc9 E m xc sh) 0 [y] = sc9 E m y sh := rfl
theorem t9_1 (E m xc sh) (d : Int) : isplice (sc9 E m xc sh) 1 [.int .u64 d] = sc9 E { m with dice := d } xc sh := rfl
theorem t9_2 (E m xc sh) (d : BitVec 64) : isplice (sc9 E m xc sh) 2 [.int .u64 (d.toNat : Int)] = sc9 E { m with touched := d } xc sh := rfl
theorem t9_3 (E m xc sh) (y : IV) : isplice (sc9 E m xc sh) 3 [y] = sc9 E m xc y := rfl
theorem t9_4 (E m xc sh) (d : Nat) : isplice (sc9 E m xc sh) 4 [nI d] = sc9 E { m with used := d } xc sh := rfl
theorem t9_5 (E m xc sh) (d : Nat) : isplice (sc9 E m xc sh) 5 [nI d] = sc9 E { m with err := d } xc sh := rfl
theorem t9_r (E m xc sh) {i : Nat} (h : i < 8) (v : Int) (s : BitVec 32) : isplice (sc9 E m xc sh) (6 + i * 2) [.int .i32 v, m32 s] = sc9 E { m with r := m.r.set i ⟨v, s⟩ } xc sh := by
  rw [sc9, app_sp (n := 6) rfl, app_sp0 (by simp [rgc_len]; omega), rgc_set _ h ⟨v, s⟩]; rfl
theorem t9_rs (E m xc sh) {i : Nat} (h : i < 8) (s : BitVec 32) : isplice (sc9 E m xc sh) (6 + i * 2 + 1) [m32 s] = sc9 E { m with r := m.r.set i ⟨(m.r.at i).v, s⟩ } xc sh := by
  rw [sc9, Nat.add_assoc, app_sp (n := 6) rfl, app_sp0 (by simp [rgc_len]; omega), rgc_sets _ h s]; rfl
theorem t9_22 (E m xc sh) (d : Nat) : isplice (sc9 E m xc sh) 22 [nI d] = sc9 E { m with pc := d } xc sh := by
  rw [sc9, ← List.append_assoc, show (22 : Nat) = 22 + 0 from rfl, app_sp (n := 22) (by simp [rgc_len]), List.append_assoc]; rfl
theorem r8 {i : Nat} (h : i < 8) : i < 8 ∧ 6 + i * 2 ≤ 24 ∧ 6 + i * 2 ≤ 25 ∧ 6 + i * 2 + 1 ≤ 25 ∧ 6 + i * 2 + 2 ≤ 26 ∧ 6 + i * 2 + 1 ≤ 26 := by omega
attribute [go_sem] s9_len s9_res s9_0 s9_1 s9_2 s9_3 s9_4 s9_5 s9_22 s9_23 s9_24 s9_25
attribute [go_sem ↓] t9_0 t9_1 t9_2 t9_3 t9_4 t9_5 t9_22
structure SA (E : Me) (J : JH) (b : Nat) (xc sh : IV) (m : Mc) : Prop where
  at' : J[b]? = some (.cells 0 (sc9 E m xc sh) false)
  x : Ls 2 xc (m.bd.l.map Cl.e)
  out : b ∉ blk sh
  g : Grow J sh 3 (m.shows.map Sh.c).flatten
def SO (E : Me) (b : Nat) (J : JH) (sh : IV) (J' : JH) (m : Mc) : Prop := ∃ xc' sh', SA E J' b xc' sh' m ∧ Upd b J sh J' sh'
theorem SA.push (h : SA E J b xc sh m) (X : IB) : SA E (J.push X) b xc sh m := ⟨gpN (lt_get h.at') h.at', h.x, h.out, h.g.fr0 (.push _ _ _)⟩
theorem SA.set (h : SA E J b xc sh m) (m' : Mc) (xc' : IV) (hx : Ls 2 xc' (m'.bd.l.map Cl.e)) (hs : m'.shows = m.shows) : SA E (J.setIfInBounds b (.cells 0 (sc9 E m' xc' sh) false)) b xc' sh m' :=
  ⟨set_get _ (lt_get h.at'), hx, h.out, by rw [hs]; exact h.g.fr (Fr.set J (b := b) _ (S := [b]) (by simp)) (fun c hc hm => by simp at hm; subst hm; exact h.out hc)⟩
theorem SO.refl (h : SA E J b xc sh m) : SO E b J sh J m := ⟨xc, sh, h, .refl⟩
theorem SO.push (h : SA E J b xc sh m) (X : IB) : SO E b J sh (J.push X) m := ⟨xc, sh, h.push X, .push _⟩
theorem SO.trans {J1 J2 : JH} {sh1 : IV} {m2 : Mc} (u : Upd b J sh J1 sh1) (k : SO E b J1 sh1 J2 m2) : SO E b J sh J2 m2 := by
  obtain ⟨x2, s2, h2, u2⟩ := k
  exact ⟨x2, s2, h2, u.trans u2⟩
end Go.Proofs.Ytcdlipdeemlibaa.G
namespace Go.Proofs.Ytcdlipdeemlibaa.G
open Go
set_option linter.unusedSimpArgs false
set_option linter.unusedVariables false
set_option maxRecDepth 20000
set_option maxHeartbeats 1000000
variable {E : Me} {J : JH} {b : Nat} {m : Mc} {xc sh : IV}
theorem bit_nat {i : Nat} (h : i < 64) : (bit (i : Int)).toNat = 2 ^ i := by
  unfold bit
  rw [Int.toNat_natCast, BitVec.toNat_shiftLeft]
  simp only [BitVec.toNat_ofNat, Nat.shiftLeft_eq]
  have : 2 ^ i < 2 ^ 64 := Nat.pow_lt_pow_right (by omega) h
  rw [Nat.mod_eq_of_lt (a := 1) (by omega), Nat.one_mul, Nat.mod_eq_of_lt this]
theorem rbit_ok {i : Nat} (h : i < 64) : pc BI F_ref09_bit [nI i] = some (.int .u64 ((bit (i : Int)).toNat : Int)) := by
  refine pcE fn_ref09_bit rfl fun K hK => ?_
  unfold l_ref09_bit
  simp -implicitDefEqProofs only [go_sem, dnW_ite, reduceIte, Nat.reduceAdd, Nat.reduceLeDiff, Nat.reduceMul, Nat.reduceEqDiff, Int.reduceLT, Int.reduceLE, Int.reduceToNat, Nat.reduceSub, Nat.reduceLT, Int.reduceEq, BitVec.reduceOfInt, BitVec.reduceOfNat, Int.reduceGT, Int.reduceGE, Int.reduceBEq, Int.reduceBNe, Nat.reduceGT, Nat.reduceBEq, Nat.reduceBNe, Int.reduceAdd, Int.reduceSub, Int.reduceNeg, dn_loop]
  refine WP_range (by decide) i (fun k vs J => vs = [nI (i - k), .int .u64 ((2 ^ k : Nat) : Int)]) ?_ rfl
  rintro k vs J rfl hk K1 g1 g2 g3
  unfold l_ref09_bit_k0
  by_cases hlt : k < i
  · have h1 : 2 ^ (k + 1) ≤ 2 ^ 63 := Nat.pow_le_pow_right (by omega) (by omega)
    have h2 : 2 ^ (k + 1) = 2 ^ k * 2 := Nat.pow_succ _ _
    have hw1 : IntKind.u64.wrap (((2 ^ k : Nat) : Int) * 2) = ((2 ^ (k + 1) : Nat) : Int) := by rw [wrap_u64 (by omega) (by omega)]; omega
    have hw2 : IntKind.i64.wrap (((i - k : Nat) : Int) - 1) = ((i - (k + 1) : Nat) : Int) := by rw [wrap_i64 (by omega) (by omega)]; omega
    simp -implicitDefEqProofs only [go_sem, dnW_ite, reduceIte, Nat.reduceAdd, Nat.reduceLeDiff, Nat.reduceMul, Nat.reduceEqDiff, Int.reduceLT, Int.reduceLE, Int.reduceToNat, Nat.reduceSub, Nat.reduceLT, Int.reduceEq, BitVec.reduceOfInt, BitVec.reduceOfNat, Int.reduceGT, Int.reduceGE, Int.reduceBEq, Int.reduceBNe, Nat.reduceGT, Nat.reduceBEq, Nat.reduceBNe, Int.reduceAdd, Int.reduceSub, Int.reduceNeg, show (((i - k : Nat) : Int) > 0) by omega, hw1, hw2]
    exact g1 hlt _ _ rfl
  · simp -implicitDefEqProofs only [go_sem, dnW_ite, reduceIte, Nat.reduceAdd, Nat.reduceLeDiff, Nat.reduceMul, Nat.reduceEqDiff, Int.reduceLT, Int.reduceLE, Int.reduceToNat, Nat.reduceSub, Nat.reduceLT, Int.reduceEq, BitVec.reduceOfInt, BitVec.reduceOfNat, Int.reduceGT, Int.reduceGE, Int.reduceBEq, Int.reduceBNe, Nat.reduceGT, Nat.reduceBEq, Nat.reduceBNe, Int.reduceAdd, Int.reduceSub, Int.reduceNeg, show ¬ (((i - k : Nat) : Int) > 0) by omega]
    obtain rfl : k = i := by omega
    refine g2 _ _ ?_
    unfold l_ref09_bit_k1
    simp -implicitDefEqProofs only [go_sem, dnW_ite, reduceIte, Nat.reduceAdd, Nat.reduceLeDiff, Nat.reduceMul, Nat.reduceEqDiff, Int.reduceLT, Int.reduceLE, Int.reduceToNat, Nat.reduceSub, Nat.reduceLT, Int.reduceEq, BitVec.reduceOfInt, BitVec.reduceOfNat, Int.reduceGT, Int.reduceGE, Int.reduceBEq, Int.reduceBNe, Nat.reduceGT, Nat.reduceBEq, Nat.reduceBNe, Int.reduceAdd, Int.reduceSub, Int.reduceNeg]
    exact hK _ _ (frzE rfl (by rw [bit_nat h]; rfl))
theorem Put6_ok (x : IV) (l : List Cl) (hx : Ls 2 x (l.map Cl.e)) (hb : l.length ≤ 100000) {i : Nat} (hi : i < l.length) (c : Cl) : ∃ u, pc BI F_ref06_Put [x, nI i, .agg c.c] = some u ∧ Ls 2 u ((l.set i c).map Cl.e) := by
  refine pcW fn_ref06_Put rfl fun K hK => ?_
  unfold l_ref06_Put
  have hx' : Ls 2 x ((l.map Cl.c).map (mkE 2)) := by rw [cl_mk]; exact hx
  simp -implicitDefEqProofs only [go_sem, dnW_ite, reduceIte, Nat.reduceAdd, Nat.reduceLeDiff, Nat.reduceMul, Nat.reduceEqDiff, Int.reduceLT, Int.reduceLE, Int.reduceToNat, Nat.reduceSub, Nat.reduceLT, Int.reduceEq, BitVec.reduceOfInt, BitVec.reduceOfNat, Int.reduceGT, Int.reduceGE, Int.reduceBEq, Int.reduceBNe, Nat.reduceGT, Nat.reduceBEq, Nat.reduceBNe, Int.reduceAdd, Int.reduceSub, Int.reduceNeg, ipureL, grp]
  refine WP_bind (app_clip hx' (by decide) (cl2 _) (flat_one _) (fits8 (by simp; omega))) fun s J1 k1 => ?_
  rcases k1 with ⟨e, _, _⟩ | ⟨_, rfl, rfl⟩
  · have := List.map_eq_nil_iff.1 e
    subst this; simp at hi
  have hsp : isplice (clL l) (i * 2) c.c = clL (l.set i c) := clL_splice l (k := 0) _ hi (by simp [Cl.c]) c rfl
  have hcl : clL l = (l.map Cl.c).flatten := rfl
  rw [← hcl, List.length_map]
  simp only [Cl.c] at hsp
  simp -implicitDefEqProofs only [go_sem, dnW_ite, reduceIte, Nat.reduceAdd, Nat.reduceLeDiff, Nat.reduceMul, Nat.reduceEqDiff, Int.reduceLT, Int.reduceLE, Int.reduceToNat, Nat.reduceSub, Nat.reduceLT, Int.reduceEq, BitVec.reduceOfInt, BitVec.reduceOfNat, Int.reduceGT, Int.reduceGE, Int.reduceBEq, Int.reduceBNe, Nat.reduceGT, Nat.reduceBEq, Nat.reduceBNe, Int.reduceAdd, Int.reduceSub, Int.reduceNeg, hi, clL_len, show i * 2 + 2 ≤ l.length * 2 by omega, hsp]
  have hr : ∀ JJ : JH, JJ[1]? = some (.cells 0 (clL (l.set i c)) false) → RawC JJ (.sl 1 0 0 l.length (UNK + 2) 2) (l.set i c) := fun JJ h => .inr ⟨fun e => by have := congrArg List.length e; simp at this; subst this; simp at hi, 1, by rw [List.length_set], h⟩
  refine hK _ _ _ ((hr _ ?_).frz.choose_spec.1 11) (hr _ ?_).frz.choose_spec.2 <;> rfl
theorem and_self_within (a s : BitVec 32) : (a &&& s == a) = within a s := by
  rw [Bool.eq_iff_iff, within_iff, beq_iff_eq]
  constructor
  · intro h i hi
    have := congrArg (fun z => BitVec.getLsbD z i) h
    simpa [hi] using this
  · intro h
    apply BitVec.eq_of_getLsbD_eq
    intro i hi
    rw [BitVec.getLsbD_and]
    cases ha : a.getLsbD i with
    | false => rfl
    | true => rw [h i ha]; rfl
theorem rpublic_ok (h : SA E J b xc sh m) (r : Nat) (hr : r < 8) : RP (ic BI F_ref09_state_public [.ptr b 0 0, .int .u8 (r : Int)] J) fun v J' => v = .bool (within E.all (m.r.at r).s) ∧ J' = J := by
  refine RP_run fn_ref09_state_public rfl fun K hK => ?_
  unfold l_ref09_state_public
  have h' := h.at'
  simp -implicitDefEqProofs only [go_sem, dnW_ite, reduceIte, Nat.reduceAdd, Nat.reduceLeDiff, Nat.reduceMul, Nat.reduceEqDiff, Int.reduceLT, Int.reduceLE, Int.reduceToNat, Nat.reduceSub, Nat.reduceLT, Int.reduceEq, BitVec.reduceOfInt, BitVec.reduceOfNat, Int.reduceGT, Int.reduceGE, Int.reduceBEq, Int.reduceBNe, Nat.reduceGT, Nat.reduceBEq, Nat.reduceBNe, Int.reduceAdd, Int.reduceSub, Int.reduceNeg, h', r8 hr, s9_rs E m xc sh hr, Nat.reduceEqDiff, and_self_within]
  exact hK _ _ ⟨rfl, rfl⟩
theorem rset_ok (h : SA E J b xc sh m) (i : Nat) (hi : i < m.bd.l.length) (c : Cl) : RP (ic BI F_ref09_state_set [.ptr b 0 0, nI i, .agg c.c] J) fun v J' => SO E b J sh J' { m with bd := m.bd.put i c, touched := m.touched ||| bit i } := by
  refine RP_run fn_ref09_state_set rfl fun K hK => ?_
  unfold l_ref09_state_set
  have h' := h.at'
  have hbl := m.bd.h
  obtain ⟨u, hu, hul⟩ := Put6_ok xc m.bd.l h.x (by omega) hi c
  simp only [Cl.c] at hu
  have hth : m.bd.there (i : Int) = true := by simp [Bd.there, hi]
  have hput : m.bd.put i c = m.bd.set i c := by rw [Bd.put, if_pos hth, Int.toNat_natCast]
  have hone : ∀ m' : Mc, (sc9 E m' u sh).length = 26 := fun m' => s9_len _ _ _ _
  simp -implicitDefEqProofs only [go_sem, dnW_ite, reduceIte, Nat.reduceAdd, Nat.reduceLeDiff, Nat.reduceMul, Nat.reduceEqDiff, Int.reduceLT, Int.reduceLE, Int.reduceToNat, Nat.reduceSub, Nat.reduceLT, Int.reduceEq, BitVec.reduceOfInt, BitVec.reduceOfNat, Int.reduceGT, Int.reduceGE, Int.reduceBEq, Int.reduceBNe, Nat.reduceGT, Nat.reduceBEq, Nat.reduceBNe, Int.reduceAdd, Int.reduceSub, Int.reduceNeg, h', inb h', dcp hu (by simp [ipureL, ipure, h.x.pure]), ↓hul.icells, ↓hul.one, dcp (rbit_ok (show i < 64 by omega)) rfl]
  refine hK _ _ ?_
  have hs := (h.push (.cells 0 [.int .i32 c.v, m32 c.s] false)).set { m with bd := m.bd.put i c, touched := m.touched ||| bit i } u (by rw [hput]; exact hul) rfl
  exact ⟨u, sh, hs, (Upd.push _).trans (Upd.set _)⟩
theorem rnamed_ok (h : SA E J b xc sh m) (x : Cd) (hx : x.wf) (hxb : x.b < 8) (hr : m.r.ok) (h0 : m.err = 0) : RP (ic BI F_ref09_state_named [.ptr b 0 0, x.e] J) fun v J' => v = .int .i64 (if (named E m x).2.1 then (named E m x).1 else -1) ∧ SO E b J sh J' { m with err := (named E m x).2.2 } := by
  refine RP_run fn_ref09_state_named rfl fun K hK => ?_
  unfold l_ref09_state_named
  have hb := h.at'
  have hin := inb hb
  obtain ⟨w1, w2, w3, w4, w5, w6⟩ := hx
  obtain ⟨r1, r2⟩ := hr x.b hxb
  have e1 : IntKind.i64.wrap x.n = x.n := wrap_i64 (by omega) (by omega)
  have e2 : IntKind.i64.wrap (m.r.at x.b).v = (m.r.at x.b).v := wrap_i64 (by omega) (by omega)
  have e3 : IntKind.i64.wrap (x.n + (m.r.at x.b).v) = x.n + (m.r.at x.b).v := wrap_i64 (by omega) (by omega)
  unfold Cd.e Cd.cs
  simp -implicitDefEqProofs only [go_sem, dnW_ite, reduceIte, Nat.reduceAdd, Nat.reduceLeDiff, Nat.reduceMul, Nat.reduceEqDiff, Int.reduceLT, Int.reduceLE, Int.reduceToNat, Nat.reduceSub, Nat.reduceLT, Int.reduceEq, BitVec.reduceOfInt, BitVec.reduceOfNat, Int.reduceGT, Int.reduceGE, Int.reduceBEq, Int.reduceBNe, Nat.reduceGT, Nat.reduceBEq, Nat.reduceBNe, Int.reduceAdd, Int.reduceSub, Int.reduceNeg, hb, r8 hxb, s9_rv E m xc sh hxb, hin, e1, e2, e3]
  have hp := h.push (.cells 0 [.int .u8 (x.op : Int), .int .u8 (x.a : Int), .int .u8 (x.b : Int), .int .u8 (x.c : Int), .int .i32 x.n, m32 x.mask] false)
  refine WP_call (rpublic_ok hp x.b hxb) fun v J' hv => ?_
  obtain ⟨rfl, rfl⟩ := hv
  have fin : ∀ (X : IB) (q : Int × Bool × Nat), named E m x = q → ∀ J', SO E b (J.push X) sh J' { m with err := q.2.2 } → K (.ret [.int .i64 (if q.2.1 then q.1 else -1)]) J' := fun X q hq J' h1 => hK _ _ ⟨by rw [hq]; rfl, by rw [hq]; exact SO.trans (.push X) h1⟩
  have seterr : ∀ (X : IB) (e : Nat), SO E b (J.push X) sh ((J.push X).setIfInBounds b (.cells 0 (sc9 E { m with err := e } xc sh) false)) { m with err := e } := fun X e => ⟨xc, sh, (h.push X).set { m with err := e } xc h.x rfl, Upd.set _⟩
  cases hw : within E.all (m.r.at x.b).s with
  | false =>
    simp -implicitDefEqProofs only [go_sem, dnW_ite, reduceIte, Nat.reduceAdd, Nat.reduceLeDiff, Nat.reduceMul, Nat.reduceEqDiff, Int.reduceLT, Int.reduceLE, Int.reduceToNat, Nat.reduceSub, Nat.reduceLT, Int.reduceEq, BitVec.reduceOfInt, BitVec.reduceOfNat, Int.reduceGT, Int.reduceGE, Int.reduceBEq, Int.reduceBNe, Nat.reduceGT, Nat.reduceBEq, Nat.reduceBNe, Int.reduceAdd, Int.reduceSub, Int.reduceNeg, hb, hin, show ∀ m : Mc, isplice (sc9 E m xc sh) 5 [.int .i64 8] = sc9 E { m with err := 8 } xc sh from fun m => t9_5 E m xc sh 8]
    exact fin _ (0, false, 8) (by simp [named, hw]) _ (seterr _ 8)
  | true =>
    by_cases h1 : x.n + (m.r.at x.b).v < 0
    · simp -implicitDefEqProofs only [go_sem, dnW_ite, reduceIte, Nat.reduceAdd, Nat.reduceLeDiff, Nat.reduceMul, Nat.reduceEqDiff, Int.reduceLT, Int.reduceLE, Int.reduceToNat, Nat.reduceSub, Nat.reduceLT, Int.reduceEq, BitVec.reduceOfInt, BitVec.reduceOfNat, Int.reduceGT, Int.reduceGE, Int.reduceBEq, Int.reduceBNe, Nat.reduceGT, Nat.reduceBEq, Nat.reduceBNe, Int.reduceAdd, Int.reduceSub, Int.reduceNeg, hb, hin, h1, show ∀ m : Mc, isplice (sc9 E m xc sh) 5 [.int .i64 7] = sc9 E { m with err := 7 } xc sh from fun m => t9_5 E m xc sh 7]
      exact fin _ (0, false, 7) (by simp [named, hw, h1]) _ (seterr _ 7)
    · by_cases h2 : (m.bd.l.length : Int) ≤ x.n + (m.r.at x.b).v
      · simp -implicitDefEqProofs only [go_sem, dnW_ite, reduceIte, Nat.reduceAdd, Nat.reduceLeDiff, Nat.reduceMul, Nat.reduceEqDiff, Int.reduceLT, Int.reduceLE, Int.reduceToNat, Nat.reduceSub, Nat.reduceLT, Int.reduceEq, BitVec.reduceOfInt, BitVec.reduceOfNat, Int.reduceGT, Int.reduceGE, Int.reduceBEq, Int.reduceBNe, Nat.reduceGT, Nat.reduceBEq, Nat.reduceBNe, Int.reduceAdd, Int.reduceSub, Int.reduceNeg, hb, hin, h1, h.x.lenF, List.length_map, show x.n + (m.r.at x.b).v ≥ (m.bd.l.length : Int) by omega, show ∀ m : Mc, isplice (sc9 E m xc sh) 5 [.int .i64 7] = sc9 E { m with err := 7 } xc sh from fun m => t9_5 E m xc sh 7]
        exact fin _ (0, false, 7) (by simp [named, hw, h2]) _ (seterr _ 7)
      · simp -implicitDefEqProofs only [go_sem, dnW_ite, reduceIte, Nat.reduceAdd, Nat.reduceLeDiff, Nat.reduceMul, Nat.reduceEqDiff, Int.reduceLT, Int.reduceLE, Int.reduceToNat, Nat.reduceSub, Nat.reduceLT, Int.reduceEq, BitVec.reduceOfInt, BitVec.reduceOfNat, Int.reduceGT, Int.reduceGE, Int.reduceBEq, Int.reduceBNe, Nat.reduceGT, Nat.reduceBEq, Nat.reduceBNe, Int.reduceAdd, Int.reduceSub, Int.reduceNeg, hb, hin, h1, h.x.lenF, List.length_map, show ¬ (x.n + (m.r.at x.b).v ≥ (m.bd.l.length : Int)) by omega]
        refine fin (.cells 0 [.int .u8 (x.op : Int), .int .u8 (x.a : Int), .int .u8 (x.b : Int), .int .u8 (x.c : Int), .int .i32 x.n, m32 x.mask] false) (x.n + (m.r.at x.b).v, true, 0) (by simp [named, hw, h1, h2]) _ ?_
        have e : ({ m with err := 0 } : Mc) = m := by cases m; simp_all
        rw [e]
        exact SO.refl hp
end Go.Proofs.Ytcdlipdeemlibaa.G
namespace Go.Proofs.Ytcdlipdeemlibaa.G
open Go
set_option linter.unusedSimpArgs false
set_option linter.unusedVariables false
set_option maxRecDepth 20000
set_option maxHeartbeats 2000000
variable {E : Me} {J : JH} {b : Nat} {m : Mc} {xc sh : IV}
theorem Ls.atK {sz : Nat} {x : IV} {xs : List IV} (h : Ls sz x xs) {κ : IntKind} {i : Nat} (hi : i < xs.length) {J : JH} : iaddrF sz x (.int κ (i : Int)) J = some (.rptr xs[i] 0, J) := by
  obtain ⟨f, rfl⟩ := h.get hi
  rw [iaddrF_lst]
  simp [iasNat, asNat, hi]
theorem bd_get (d : Bd) {i : Nat} (h : i < d.l.length) : d.l[i] = d.at (i : Int) := by simp [Bd.at, h]
theorem do_1 (h : SA E J b xc sh m) (x : Cd) (hx : x.wf) (size : Nat) (hr : x.right size m.bd.l.length E.moves.length = true) (hE : E.ok) (h6 : E.moves.length ≤ 32) (h0 : m.err = 0) (hok : m.r.ok) (hs : m.shows.length ≤ 1000) (hpc : m.pc ≤ 1000) (hop : x.op = 1) : RP (ic BI F_ref09_state_do [.ptr b 0 0, x.e] J) fun v J' => SO E b J sh J' (followF E m x) := by
  refine RP_run fn_ref09_state_do rfl fun K hK => ?_
  have hb := h.at'
  have hin := inb hb
  have hbl := m.bd.h
  obtain ⟨hop25, ha8, hb8⟩ := right_ab hr
  have hxw := hx
  obtain ⟨w1, w2, w3, w4, w5, w6⟩ := hx
  have hw1 := wrapS (i := m.pc) (n := 2000) (by omega) (by omega)
  have tt : ∀ j, (x.op == j) = (1 == j) := fun j => by rw [hop]
  have hgo : ∀ xc sh, sc9 E { m with pc := m.pc + 1 } xc sh = sc9 E m.go xc sh := fun _ _ => rfl
  have hg : SA E ((J.push (.cells 0 x.cs false)).setIfInBounds b (.cells 0 (sc9 E m.go xc sh) false)) b xc sh m.go := (h.push _).set m.go xc h.x rfl
  have u0 : Upd b J sh ((J.push (.cells 0 x.cs false)).setIfInBounds b (.cells 0 (sc9 E m.go xc sh) false)) sh := (Upd.push _).trans (Upd.set _)
  have hcd : ((J.push (.cells 0 x.cs false)).setIfInBounds b (.cells 0 (sc9 E m.go xc sh) false))[J.size]? = some (.cells 0 x.cs false) := gsN (by have := lt_get hb; omega) (push_get _ _)
  have fin : ∀ m' : Mc, m'.bd = m.bd → m'.shows = m.shows → SO E b J sh ((J.push (.cells 0 x.cs false)).setIfInBounds b (.cells 0 (sc9 E m' xc sh) false)) m' := fun m' e1 e2 => ⟨xc, sh, (h.push _).set m' xc (by rw [e1]; exact h.x) e2, (Upd.push _).trans (Upd.set _)⟩
  simp only [followF, hop] at hK
  simp [Cd.right, hop, useOf, nOk] at hr
  unfold l_ref09_state_do Cd.e
  unfold Cd.cs at *
  simp -implicitDefEqProofs only [go_sem, dnW_ite, reduceIte, Nat.reduceAdd, Nat.reduceLeDiff, Nat.reduceMul, Nat.reduceEqDiff, Int.reduceLT, Int.reduceLE, Int.reduceToNat, Nat.reduceSub, Nat.reduceLT, Int.reduceEq, BitVec.reduceOfInt, BitVec.reduceOfNat, Int.reduceGT, Int.reduceGE, Int.reduceBEq, Int.reduceBNe, Nat.reduceGT, Nat.reduceBEq, Nat.reduceBNe, Int.reduceAdd, Int.reduceSub, Int.reduceNeg, natBeqc, natBeqD, tt, hb, hin, r8 ha8, hw1, hgo, ↓t9_r E m.go xc sh ha8]
  exact hK _ _ (fin _ rfl rfl)
theorem do_2 (h : SA E J b xc sh m) (x : Cd) (hx : x.wf) (size : Nat) (hr : x.right size m.bd.l.length E.moves.length = true) (hE : E.ok) (h6 : E.moves.length ≤ 32) (h0 : m.err = 0) (hok : m.r.ok) (hs : m.shows.length ≤ 1000) (hpc : m.pc ≤ 1000) (hop : x.op = 2) : RP (ic BI F_ref09_state_do [.ptr b 0 0, x.e] J) fun v J' => SO E b J sh J' (followF E m x) := by
  refine RP_run fn_ref09_state_do rfl fun K hK => ?_
  have hb := h.at'
  have hin := inb hb
  have hbl := m.bd.h
  obtain ⟨hop25, ha8, hb8⟩ := right_ab hr
  have hxw := hx
  obtain ⟨w1, w2, w3, w4, w5, w6⟩ := hx
  have hw1 := wrapS (i := m.pc) (n := 2000) (by omega) (by omega)
  have tt : ∀ j, (x.op == j) = (2 == j) := fun j => by rw [hop]
  have hgo : ∀ xc sh, sc9 E { m with pc := m.pc + 1 } xc sh = sc9 E m.go xc sh := fun _ _ => rfl
  have hg : SA E ((J.push (.cells 0 x.cs false)).setIfInBounds b (.cells 0 (sc9 E m.go xc sh) false)) b xc sh m.go := (h.push _).set m.go xc h.x rfl
  have u0 : Upd b J sh ((J.push (.cells 0 x.cs false)).setIfInBounds b (.cells 0 (sc9 E m.go xc sh) false)) sh := (Upd.push _).trans (Upd.set _)
  have hcd : ((J.push (.cells 0 x.cs false)).setIfInBounds b (.cells 0 (sc9 E m.go xc sh) false))[J.size]? = some (.cells 0 x.cs false) := gsN (by have := lt_get hb; omega) (push_get _ _)
  have fin : ∀ m' : Mc, m'.bd = m.bd → m'.shows = m.shows → SO E b J sh ((J.push (.cells 0 x.cs false)).setIfInBounds b (.cells 0 (sc9 E m' xc sh) false)) m' := fun m' e1 e2 => ⟨xc, sh, (h.push _).set m' xc (by rw [e1]; exact h.x) e2, (Upd.push _).trans (Upd.set _)⟩
  simp only [followF, hop] at hK
  simp [Cd.right, hop, useOf, nOk] at hr
  obtain ⟨k, hk⟩ : ∃ k : Nat, x.n = k := ⟨x.n.toNat, by omega⟩
  have hkl : k < m.bd.l.length := by omega
  have hat := fun J => h.x.atK (κ := .i32) (i := k) (by simpa using hkl) (J := J)
  simp only [List.getElem_map, Cl.e, Cl.c, bd_get m.bd hkl] at hat
  unfold l_ref09_state_do Cd.e
  unfold Cd.cs at *
  simp -implicitDefEqProofs only [go_sem, dnW_ite, reduceIte, Nat.reduceAdd, Nat.reduceLeDiff, Nat.reduceMul, Nat.reduceEqDiff, Int.reduceLT, Int.reduceLE, Int.reduceToNat, Nat.reduceSub, Nat.reduceLT, Int.reduceEq, BitVec.reduceOfInt, BitVec.reduceOfNat, Int.reduceGT, Int.reduceGE, Int.reduceBEq, Int.reduceBNe, Nat.reduceGT, Nat.reduceBEq, Nat.reduceBNe, Int.reduceAdd, Int.reduceSub, Int.reduceNeg, natBeqc, natBeqD, tt, hb, hin, r8 ha8, hw1, hgo, ↓t9_r E m.go xc sh ha8, hk, hat]
  rw [← hk]
  exact hK _ _ (fin _ rfl rfl)
theorem do_25 (h : SA E J b xc sh m) (x : Cd) (hx : x.wf) (size : Nat) (hr : x.right size m.bd.l.length E.moves.length = true) (hE : E.ok) (h6 : E.moves.length ≤ 32) (h0 : m.err = 0) (hok : m.r.ok) (hs : m.shows.length ≤ 1000) (hpc : m.pc ≤ 1000) (hop : x.op = 25) : RP (ic BI F_ref09_state_do [.ptr b 0 0, x.e] J) fun v J' => SO E b J sh J' (followF E m x) := by
  refine RP_run fn_ref09_state_do rfl fun K hK => ?_
  have hb := h.at'
  have hin := inb hb
  have hbl := m.bd.h
  obtain ⟨hop25, ha8, hb8⟩ := right_ab hr
  have hxw := hx
  obtain ⟨w1, w2, w3, w4, w5, w6⟩ := hx
  have hw1 := wrapS (i := m.pc) (n := 2000) (by omega) (by omega)
  have tt : ∀ j, (x.op == j) = (25 == j) := fun j => by rw [hop]
  have hgo : ∀ xc sh, sc9 E { m with pc := m.pc + 1 } xc sh = sc9 E m.go xc sh := fun _ _ => rfl
  have hg : SA E ((J.push (.cells 0 x.cs false)).setIfInBounds b (.cells 0 (sc9 E m.go xc sh) false)) b xc sh m.go := (h.push _).set m.go xc h.x rfl
  have u0 : Upd b J sh ((J.push (.cells 0 x.cs false)).setIfInBounds b (.cells 0 (sc9 E m.go xc sh) false)) sh := (Upd.push _).trans (Upd.set _)
  have hcd : ((J.push (.cells 0 x.cs false)).setIfInBounds b (.cells 0 (sc9 E m.go xc sh) false))[J.size]? = some (.cells 0 x.cs false) := gsN (by have := lt_get hb; omega) (push_get _ _)
  have fin : ∀ m' : Mc, m'.bd = m.bd → m'.shows = m.shows → SO E b J sh ((J.push (.cells 0 x.cs false)).setIfInBounds b (.cells 0 (sc9 E m' xc sh) false)) m' := fun m' e1 e2 => ⟨xc, sh, (h.push _).set m' xc (by rw [e1]; exact h.x) e2, (Upd.push _).trans (Upd.set _)⟩
  simp only [followF, hop] at hK
  simp [Cd.right, hop, useOf, nOk] at hr
  have hti : IntKind.i32.wrap E.tick = w32 E.tick := rfl
  unfold l_ref09_state_do Cd.e
  unfold Cd.cs at *
  simp -implicitDefEqProofs only [go_sem, dnW_ite, reduceIte, Nat.reduceAdd, Nat.reduceLeDiff, Nat.reduceMul, Nat.reduceEqDiff, Int.reduceLT, Int.reduceLE, Int.reduceToNat, Nat.reduceSub, Nat.reduceLT, Int.reduceEq, BitVec.reduceOfInt, BitVec.reduceOfNat, Int.reduceGT, Int.reduceGE, Int.reduceBEq, Int.reduceBNe, Nat.reduceGT, Nat.reduceBEq, Nat.reduceBNe, Int.reduceAdd, Int.reduceSub, Int.reduceNeg, natBeqc, natBeqD, tt, hb, hin, r8 ha8, hw1, hgo, ↓t9_r E m.go xc sh ha8, hti]
  exact hK _ _ (fin _ rfl rfl)
theorem do_20 (h : SA E J b xc sh m) (x : Cd) (hx : x.wf) (size : Nat) (hr : x.right size m.bd.l.length E.moves.length = true) (hE : E.ok) (h6 : E.moves.length ≤ 32) (h0 : m.err = 0) (hok : m.r.ok) (hs : m.shows.length ≤ 1000) (hpc : m.pc ≤ 1000) (hop : x.op = 20) : RP (ic BI F_ref09_state_do [.ptr b 0 0, x.e] J) fun v J' => SO E b J sh J' (followF E m x) := by
  refine RP_run fn_ref09_state_do rfl fun K hK => ?_
  have hb := h.at'
  have hin := inb hb
  have hbl := m.bd.h
  obtain ⟨hop25, ha8, hb8⟩ := right_ab hr
  have hxw := hx
  obtain ⟨w1, w2, w3, w4, w5, w6⟩ := hx
  have hw1 := wrapS (i := m.pc) (n := 2000) (by omega) (by omega)
  have tt : ∀ j, (x.op == j) = (20 == j) := fun j => by rw [hop]
  have hgo : ∀ xc sh, sc9 E { m with pc := m.pc + 1 } xc sh = sc9 E m.go xc sh := fun _ _ => rfl
  have hg : SA E ((J.push (.cells 0 x.cs false)).setIfInBounds b (.cells 0 (sc9 E m.go xc sh) false)) b xc sh m.go := (h.push _).set m.go xc h.x rfl
  have u0 : Upd b J sh ((J.push (.cells 0 x.cs false)).setIfInBounds b (.cells 0 (sc9 E m.go xc sh) false)) sh := (Upd.push _).trans (Upd.set _)
  have hcd : ((J.push (.cells 0 x.cs false)).setIfInBounds b (.cells 0 (sc9 E m.go xc sh) false))[J.size]? = some (.cells 0 x.cs false) := gsN (by have := lt_get hb; omega) (push_get _ _)
  have fin : ∀ m' : Mc, m'.bd = m.bd → m'.shows = m.shows → SO E b J sh ((J.push (.cells 0 x.cs false)).setIfInBounds b (.cells 0 (sc9 E m' xc sh) false)) m' := fun m' e1 e2 => ⟨xc, sh, (h.push _).set m' xc (by rw [e1]; exact h.x) e2, (Upd.push _).trans (Upd.set _)⟩
  simp only [followF, hop] at hK
  simp [Cd.right, hop, useOf, nOk] at hr
  obtain ⟨k, hk⟩ : ∃ k : Nat, x.n = k := ⟨x.n.toNat, by omega⟩
  have hw2 : IntKind.i64.wrap (k : Int) = k := wrap_i64 (by omega) (by omega)
  have hgk : ∀ xc sh, sc9 E { m.go with pc := k } xc sh = sc9 E { m.go with pc := x.n.toNat } xc sh := fun _ _ => by rw [hk, Int.toNat_natCast]
  unfold l_ref09_state_do Cd.e
  unfold Cd.cs at *
  simp -implicitDefEqProofs only [go_sem, dnW_ite, reduceIte, Nat.reduceAdd, Nat.reduceLeDiff, Nat.reduceMul, Nat.reduceEqDiff, Int.reduceLT, Int.reduceLE, Int.reduceToNat, Nat.reduceSub, Nat.reduceLT, Int.reduceEq, BitVec.reduceOfInt, BitVec.reduceOfNat, Int.reduceGT, Int.reduceGE, Int.reduceBEq, Int.reduceBNe, Nat.reduceGT, Nat.reduceBEq, Nat.reduceBNe, Int.reduceAdd, Int.reduceSub, Int.reduceNeg, natBeqc, natBeqD, tt, hb, hin, r8 ha8, hw1, hgo, ↓t9_r E m.go xc sh ha8, hk, hw2, hgk]
  rw [← hk]
  exact hK _ _ (fin { m.go with pc := x.n.toNat } rfl rfl)
end Go.Proofs.Ytcdlipdeemlibaa.G
namespace Go.Proofs.Ytcdlipdeemlibaa.G
open Go
set_option linter.unusedSimpArgs false
set_option linter.unusedVariables false
set_option maxRecDepth 20000
set_option maxHeartbeats 2000000
variable {E : Me} {J : JH} {b : Nat} {m : Mc} {xc sh : IV}
theorem do_18 (h : SA E J b xc sh m) (x : Cd) (hx : x.wf) (size : Nat) (hr : x.right size m.bd.l.length E.moves.length = true) (hE : E.ok) (h6 : E.moves.length ≤ 32) (h0 : m.err = 0) (hok : m.r.ok) (hs : m.shows.length ≤ 1000) (hpc : m.pc ≤ 1000) (hop : x.op = 18) : RP (ic BI F_ref09_state_do [.ptr b 0 0, x.e] J) fun v J' => SO E b J sh J' (followF E m x) := by
  refine RP_run fn_ref09_state_do rfl fun K hK => ?_
  have hb := h.at'
  have hin := inb hb
  have hbl := m.bd.h
  obtain ⟨hop25, ha8, hb8⟩ := right_ab hr
  have hxw := hx
  obtain ⟨w1, w2, w3, w4, w5, w6⟩ := hx
  have hw1 := wrapS (i := m.pc) (n := 2000) (by omega) (by omega)
  have tt : ∀ j, (x.op == j) = (18 == j) := fun j => by rw [hop]
  have hgo : ∀ xc sh, sc9 E { m with pc := m.pc + 1 } xc sh = sc9 E m.go xc sh := fun _ _ => rfl
  have hg : SA E ((J.push (.cells 0 x.cs false)).setIfInBounds b (.cells 0 (sc9 E m.go xc sh) false)) b xc sh m.go := (h.push _).set m.go xc h.x rfl
  have u0 : Upd b J sh ((J.push (.cells 0 x.cs false)).setIfInBounds b (.cells 0 (sc9 E m.go xc sh) false)) sh := (Upd.push _).trans (Upd.set _)
  have hcd : ((J.push (.cells 0 x.cs false)).setIfInBounds b (.cells 0 (sc9 E m.go xc sh) false))[J.size]? = some (.cells 0 x.cs false) := gsN (by have := lt_get hb; omega) (push_get _ _)
  have fin : ∀ m' : Mc, m'.bd = m.bd → m'.shows = m.shows → SO E b J sh ((J.push (.cells 0 x.cs false)).setIfInBounds b (.cells 0 (sc9 E m' xc sh) false)) m' := fun m' e1 e2 => ⟨xc, sh, (h.push _).set m' xc (by rw [e1]; exact h.x) e2, (Upd.push _).trans (Upd.set _)⟩
  simp only [followF, hop] at hK
  simp [Cd.right, hop, useOf, nOk] at hr
  have hc8 : x.c < 8 := by
    simp [regOk] at hr; omega
  have hc8' : x.c % 8 = x.c := Nat.mod_eq_of_lt hc8
  rw [hc8'] at hK
  have hgr : m.go.r = m.r := rfl
  by_cases hv : (m.go.r.at x.a).v = 0
  · simp only [if_pos hv] at hK
    unfold l_ref09_state_do Cd.e
    unfold Cd.cs at *
    simp -implicitDefEqProofs only [go_sem, dnW_ite, reduceIte, Nat.reduceAdd, Nat.reduceLeDiff, Nat.reduceMul, Nat.reduceEqDiff, Int.reduceLT, Int.reduceLE, Int.reduceToNat, Nat.reduceSub, Nat.reduceLT, Int.reduceEq, BitVec.reduceOfInt, BitVec.reduceOfNat, Int.reduceGT, Int.reduceGE, Int.reduceBEq, Int.reduceBNe, Nat.reduceGT, Nat.reduceBEq, Nat.reduceBNe, Int.reduceAdd, Int.reduceSub, Int.reduceNeg, natBeqc, natBeqD, tt, hb, hin, r8 ha8, hw1, hgo, ↓t9_r E m.go xc sh ha8, s9_rv E m.go xc sh ha8, s9_rs E m.go xc sh ha8, s9_rv E m.go xc sh hb8, s9_rs E m.go xc sh hb8, s9_rv E m.go xc sh hc8, s9_rs E m.go xc sh hc8, r8 hb8, r8 hc8, hv, l_ref09_state_do_k0]
    exact hK _ _ (fin _ rfl rfl)
  simp only [if_neg hv] at hK
  have hv' : ((m.go.r.at x.a).v == 0) = false := by simp [hv]
  unfold l_ref09_state_do Cd.e
  unfold Cd.cs at *
  simp -implicitDefEqProofs only [go_sem, dnW_ite, reduceIte, Nat.reduceAdd, Nat.reduceLeDiff, Nat.reduceMul, Nat.reduceEqDiff, Int.reduceLT, Int.reduceLE, Int.reduceToNat, Nat.reduceSub, Nat.reduceLT, Int.reduceEq, BitVec.reduceOfInt, BitVec.reduceOfNat, Int.reduceGT, Int.reduceGE, Int.reduceBEq, Int.reduceBNe, Nat.reduceGT, Nat.reduceBEq, Nat.reduceBNe, Int.reduceAdd, Int.reduceSub, Int.reduceNeg, natBeqc, natBeqD, tt, hb, hin, r8 ha8, hw1, hgo, ↓t9_r E m.go xc sh ha8, s9_rv E m.go xc sh ha8, s9_rs E m.go xc sh ha8, s9_rv E m.go xc sh hb8, s9_rs E m.go xc sh hb8, s9_rv E m.go xc sh hc8, s9_rs E m.go xc sh hc8, r8 hb8, r8 hc8, ↓hv', l_ref09_state_do_k0]
  exact hK _ _ (fin _ rfl rfl)
theorem do_c (h : SA E J b xc sh m) (x : Cd) (hx : x.wf) (size : Nat) (hr : x.right size m.bd.l.length E.moves.length = true) (hE : E.ok) (h6 : E.moves.length ≤ 32) (h0 : m.err = 0) (hok : m.r.ok) (hs : m.shows.length ≤ 1000) (hpc : m.pc ≤ 1000) (hop : 6 ≤ x.op ∧ x.op ≤ 17) : RP (ic BI F_ref09_state_do [.ptr b 0 0, x.e] J) fun v J' => SO E b J sh J' (followF E m x) := by
  refine RP_run fn_ref09_state_do rfl fun K hK => ?_
  have hb := h.at'
  have hin := inb hb
  have hbl := m.bd.h
  obtain ⟨hop25, ha8, hb8⟩ := right_ab hr
  have hxw := hx
  obtain ⟨w1, w2, w3, w4, w5, w6⟩ := hx
  have hw1 := wrapS (i := m.pc) (n := 2000) (by omega) (by omega)
  have tt : (x.op == 1) = false ∧ (x.op == 2) = false ∧ (x.op == 3) = false ∧ (x.op == 4) = false ∧ (x.op == 5) = false ∧ (x.op == 18) = false ∧ (x.op == 19) = false ∧ (x.op == 20) = false ∧ (x.op == 21) = false ∧ (x.op == 22) = false ∧ (x.op == 23) = false ∧ (x.op == 24) = false ∧ (x.op == 25) = false := by simp; omega
  have hgo : ∀ xc sh, sc9 E { m with pc := m.pc + 1 } xc sh = sc9 E m.go xc sh := fun _ _ => rfl
  have hg : SA E ((J.push (.cells 0 x.cs false)).setIfInBounds b (.cells 0 (sc9 E m.go xc sh) false)) b xc sh m.go := (h.push _).set m.go xc h.x rfl
  have u0 : Upd b J sh ((J.push (.cells 0 x.cs false)).setIfInBounds b (.cells 0 (sc9 E m.go xc sh) false)) sh := (Upd.push _).trans (Upd.set _)
  have hcd : ((J.push (.cells 0 x.cs false)).setIfInBounds b (.cells 0 (sc9 E m.go xc sh) false))[J.size]? = some (.cells 0 x.cs false) := gsN (by have := lt_get hb; omega) (push_get _ _)
  have fin : ∀ m' : Mc, m'.bd = m.bd → m'.shows = m.shows → SO E b J sh ((J.push (.cells 0 x.cs false)).setIfInBounds b (.cells 0 (sc9 E m' xc sh) false)) m' := fun m' e1 e2 => ⟨xc, sh, (h.push _).set m' xc (by rw [e1]; exact h.x) e2, (Upd.push _).trans (Upd.set _)⟩
  have ef : followF E m x = { m.go with r := m.go.r.set x.a ⟨computeF x.op (m.go.r.at x.b).v (m.go.r.at (x.c % 8)).v, (m.go.r.at x.b).s &&& (m.go.r.at (x.c % 8)).s⟩ } := by
    obtain ⟨q1, q2⟩ := hop
    unfold followF
    split <;> first | rfl | omega
  rw [ef] at hK
  have hu : useOf x.op = (true, true, true, 0, false) := by
    obtain ⟨q1, q2⟩ := hop
    have : x.op = 6 ∨ x.op = 7 ∨ x.op = 8 ∨ x.op = 9 ∨ x.op = 10 ∨ x.op = 11 ∨ x.op = 12 ∨ x.op = 13 ∨ x.op = 14 ∨ x.op = 15 ∨ x.op = 16 ∨ x.op = 17 := by omega
    rcases this with h | h | h | h | h | h | h | h | h | h | h | h <;> rw [h] <;> rfl
  simp [Cd.right, hu, nOk] at hr
  have hc8 : x.c < 8 := by
    simp [regOk] at hr; omega
  have hc8' : x.c % 8 = x.c := Nat.mod_eq_of_lt hc8
  rw [hc8'] at hK
  have hC := rCompute_ok x.op w1 (m.go.r.at x.b).v (m.go.r.at x.c).v (hok x.b hb8) (hok x.c hc8)
  unfold l_ref09_state_do Cd.e
  unfold Cd.cs at *
  simp -implicitDefEqProofs only [go_sem, dnW_ite, reduceIte, Nat.reduceAdd, Nat.reduceLeDiff, Nat.reduceMul, Nat.reduceEqDiff, Int.reduceLT, Int.reduceLE, Int.reduceToNat, Nat.reduceSub, Nat.reduceLT, Int.reduceEq, BitVec.reduceOfInt, BitVec.reduceOfNat, Int.reduceGT, Int.reduceGE, Int.reduceBEq, Int.reduceBNe, Nat.reduceGT, Nat.reduceBEq, Nat.reduceBNe, Int.reduceAdd, Int.reduceSub, Int.reduceNeg, natBeqc, natBeqD, tt, hb, hin, r8 ha8, hw1, hgo, ↓t9_r E m.go xc sh ha8, s9_rv E m.go xc sh ha8, s9_rs E m.go xc sh ha8, s9_rv E m.go xc sh hb8, s9_rs E m.go xc sh hb8, s9_rv E m.go xc sh hc8, s9_rs E m.go xc sh hc8, r8 hb8, r8 hc8, dcp hC rfl]
  exact hK _ _ (fin _ rfl rfl)
end Go.Proofs.Ytcdlipdeemlibaa.G
namespace Go.Proofs.Ytcdlipdeemlibaa.G
open Go
set_option linter.unusedSimpArgs false
set_option linter.unusedVariables false
set_option maxRecDepth 20000
set_option maxHeartbeats 2000000
variable {E : Me} {J : JH} {b : Nat} {m : Mc} {xc sh : IV}
theorem one_bits {k : Nat} (h : k < 32) : IntKind.u32.wrap ((bit (k : Int)).toNat : Int) = ((oneM (k : Int)).toNat : Int) := by
  have h1 : 2 ^ k < 2 ^ 32 := Nat.pow_lt_pow_right (by omega) h
  rw [bit_nat (by omega), oneM, if_pos (by omega), Int.toNat_natCast, BitVec.toNat_shiftLeft]
  simp only [BitVec.toNat_ofNat, Nat.shiftLeft_eq]
  rw [Nat.mod_eq_of_lt (a := 1) (by omega), Nat.one_mul, Nat.mod_eq_of_lt h1]
  generalize 2 ^ k = z at *
  rw [wrap_u32 (by omega) (by omega)]
theorem do_21 (h : SA E J b xc sh m) (x : Cd) (hx : x.wf) (size : Nat) (hr : x.right size m.bd.l.length E.moves.length = true) (hE : E.ok) (h6 : E.moves.length ≤ 32) (h0 : m.err = 0) (hok : m.r.ok) (hs : m.shows.length ≤ 1000) (hpc : m.pc ≤ 1000) (hop : x.op = 21) : RP (ic BI F_ref09_state_do [.ptr b 0 0, x.e] J) fun v J' => SO E b J sh J' (followF E m x) := by
  refine RP_run fn_ref09_state_do rfl fun K hK => ?_
  have hb := h.at'
  have hin := inb hb
  have hbl := m.bd.h
  obtain ⟨hop25, ha8, hb8⟩ := right_ab hr
  have hxw := hx
  obtain ⟨w1, w2, w3, w4, w5, w6⟩ := hx
  have hw1 := wrapS (i := m.pc) (n := 2000) (by omega) (by omega)
  have tt : ∀ j, (x.op == j) = (21 == j) := fun j => by rw [hop]
  have hgo : ∀ xc sh, sc9 E { m with pc := m.pc + 1 } xc sh = sc9 E m.go xc sh := fun _ _ => rfl
  have hg : SA E ((J.push (.cells 0 x.cs false)).setIfInBounds b (.cells 0 (sc9 E m.go xc sh) false)) b xc sh m.go := (h.push _).set m.go xc h.x rfl
  have u0 : Upd b J sh ((J.push (.cells 0 x.cs false)).setIfInBounds b (.cells 0 (sc9 E m.go xc sh) false)) sh := (Upd.push _).trans (Upd.set _)
  have hcd : ((J.push (.cells 0 x.cs false)).setIfInBounds b (.cells 0 (sc9 E m.go xc sh) false))[J.size]? = some (.cells 0 x.cs false) := gsN (by have := lt_get hb; omega) (push_get _ _)
  have fin : ∀ m' : Mc, m'.bd = m.bd → m'.shows = m.shows → SO E b J sh ((J.push (.cells 0 x.cs false)).setIfInBounds b (.cells 0 (sc9 E m' xc sh) false)) m' := fun m' e1 e2 => ⟨xc, sh, (h.push _).set m' xc (by rw [e1]; exact h.x) e2, (Upd.push _).trans (Upd.set _)⟩
  simp only [followF, hop] at hK
  simp [Cd.right, hop, useOf, nOk] at hr
  obtain ⟨k, hk⟩ : ∃ k : Nat, x.n = k := ⟨x.n.toNat, by omega⟩
  have hkl : k < E.moves.length := by omega
  have hat := fun J => hE.mv.atK (κ := .i32) (i := k) (by simpa using hkl) (J := J)
  simp only [List.getElem_map] at hat
  have hw2 : IntKind.i64.wrap (k : Int) = k := wrap_i64 (by omega) (by omega)
  have hgd : E.moves.getD x.n.toNat 0 = E.moves[k] := by rw [hk, Int.toNat_natCast]; simp [hkl]
  rw [hgd] at hK
  have hw3 := one_bits (k := k) (by omega)
  unfold l_ref09_state_do Cd.e
  unfold Cd.cs at *
  simp -implicitDefEqProofs only [go_sem, dnW_ite, reduceIte, Nat.reduceAdd, Nat.reduceLeDiff, Nat.reduceMul, Nat.reduceEqDiff, Int.reduceLT, Int.reduceLE, Int.reduceToNat, Nat.reduceSub, Nat.reduceLT, Int.reduceEq, BitVec.reduceOfInt, BitVec.reduceOfNat, Int.reduceGT, Int.reduceGE, Int.reduceBEq, Int.reduceBNe, Nat.reduceGT, Nat.reduceBEq, Nat.reduceBNe, Int.reduceAdd, Int.reduceSub, Int.reduceNeg, natBeqc, natBeqD, tt, hb, hin, r8 ha8, hw1, hgo, ↓t9_r E m.go xc sh ha8, hk, hat, hw2, dcp (rbit_ok (show k < 64 by omega)) rfl, hw3]
  rw [← hk]
  exact hK _ _ (fin _ rfl rfl)
theorem do_19 (h : SA E J b xc sh m) (x : Cd) (hx : x.wf) (size : Nat) (hr : x.right size m.bd.l.length E.moves.length = true) (hE : E.ok) (h6 : E.moves.length ≤ 32) (h0 : m.err = 0) (hok : m.r.ok) (hs : m.shows.length ≤ 1000) (hpc : m.pc ≤ 1000) (hop : x.op = 19) : RP (ic BI F_ref09_state_do [.ptr b 0 0, x.e] J) fun v J' => SO E b J sh J' (followF E m x) := by
  refine RP_run fn_ref09_state_do rfl fun K hK => ?_
  have hb := h.at'
  have hin := inb hb
  have hbl := m.bd.h
  obtain ⟨hop25, ha8, hb8⟩ := right_ab hr
  have hxw := hx
  obtain ⟨w1, w2, w3, w4, w5, w6⟩ := hx
  have hw1 := wrapS (i := m.pc) (n := 2000) (by omega) (by omega)
  have tt : ∀ j, (x.op == j) = (19 == j) := fun j => by rw [hop]
  have hgo : ∀ xc sh, sc9 E { m with pc := m.pc + 1 } xc sh = sc9 E m.go xc sh := fun _ _ => rfl
  have hg : SA E ((J.push (.cells 0 x.cs false)).setIfInBounds b (.cells 0 (sc9 E m.go xc sh) false)) b xc sh m.go := (h.push _).set m.go xc h.x rfl
  have u0 : Upd b J sh ((J.push (.cells 0 x.cs false)).setIfInBounds b (.cells 0 (sc9 E m.go xc sh) false)) sh := (Upd.push _).trans (Upd.set _)
  have hcd : ((J.push (.cells 0 x.cs false)).setIfInBounds b (.cells 0 (sc9 E m.go xc sh) false))[J.size]? = some (.cells 0 x.cs false) := gsN (by have := lt_get hb; omega) (push_get _ _)
  have fin : ∀ m' : Mc, m'.bd = m.bd → m'.shows = m.shows → SO E b J sh ((J.push (.cells 0 x.cs false)).setIfInBounds b (.cells 0 (sc9 E m' xc sh) false)) m' := fun m' e1 e2 => ⟨xc, sh, (h.push _).set m' xc (by rw [e1]; exact h.x) e2, (Upd.push _).trans (Upd.set _)⟩
  simp only [followF, hop] at hK
  simp [Cd.right, hop, useOf, nOk] at hr
  have nb : ∀ m' : Mc, isplice (sc9 E m' xc sh) 5 [.int .i64 8] = sc9 E { m' with err := 8 } xc sh := fun m' => t9_5 E m' xc sh 8
  unfold l_ref09_state_do Cd.e
  unfold Cd.cs at *
  simp -implicitDefEqProofs only [go_sem, dnW_ite, reduceIte, Nat.reduceAdd, Nat.reduceLeDiff, Nat.reduceMul, Nat.reduceEqDiff, Int.reduceLT, Int.reduceLE, Int.reduceToNat, Nat.reduceSub, Nat.reduceLT, Int.reduceEq, BitVec.reduceOfInt, BitVec.reduceOfNat, Int.reduceGT, Int.reduceGE, Int.reduceBEq, Int.reduceBNe, Nat.reduceGT, Nat.reduceBEq, Nat.reduceBNe, Int.reduceAdd, Int.reduceSub, Int.reduceNeg, natBeqc, natBeqD, tt, hb, hin, r8 ha8, hw1, hgo, ↓t9_r E m.go xc sh ha8]
  refine WP_call (rpublic_ok hg x.a ha8) fun v J' hv => ?_
  obtain ⟨rfl, rfl⟩ := hv
  cases hw : within E.all (m.go.r.at x.a).s with
  | false =>
    rw [hw, if_neg (by decide)] at hK
    simp -implicitDefEqProofs only [go_sem, dnW_ite, reduceIte, Nat.reduceAdd, Nat.reduceLeDiff, Nat.reduceMul, Nat.reduceEqDiff, Int.reduceLT, Int.reduceLE, Int.reduceToNat, Nat.reduceSub, Nat.reduceLT, Int.reduceEq, BitVec.reduceOfInt, BitVec.reduceOfNat, Int.reduceGT, Int.reduceGE, Int.reduceBEq, Int.reduceBNe, Nat.reduceGT, Nat.reduceBEq, Nat.reduceBNe, Int.reduceAdd, Int.reduceSub, Int.reduceNeg, hcd, hb, hin, inb hcd, nb]
    exact hK _ _ (fin { m.go with err := 8 } rfl rfl)
  | true =>
    rw [hw, if_pos rfl] at hK
    by_cases hv : (m.go.r.at x.a).v = 0
    · obtain ⟨k, hk⟩ : ∃ k : Nat, x.n = k := ⟨x.n.toNat, by omega⟩
      have hw2 : IntKind.i64.wrap (k : Int) = k := wrap_i64 (by omega) (by omega)
      have hgk : ∀ xc sh, sc9 E { m.go with pc := k } xc sh = sc9 E { m.go with pc := x.n.toNat } xc sh := fun _ _ => by rw [hk, Int.toNat_natCast]
      rw [if_pos hv] at hK
      simp -implicitDefEqProofs only [go_sem, dnW_ite, reduceIte, Nat.reduceAdd, Nat.reduceLeDiff, Nat.reduceMul, Nat.reduceEqDiff, Int.reduceLT, Int.reduceLE, Int.reduceToNat, Nat.reduceSub, Nat.reduceLT, Int.reduceEq, BitVec.reduceOfInt, BitVec.reduceOfNat, Int.reduceGT, Int.reduceGE, Int.reduceBEq, Int.reduceBNe, Nat.reduceGT, Nat.reduceBEq, Nat.reduceBNe, Int.reduceAdd, Int.reduceSub, Int.reduceNeg, hcd, hb, hin, inb hcd, r8 ha8, s9_rv E m.go xc sh ha8, hv, hk, hw2, hgk]
      rw [← hk]
      exact hK _ _ (fin { m.go with pc := x.n.toNat } rfl rfl)
    · rw [if_neg hv] at hK
      have hv' : ((m.go.r.at x.a).v == 0) = false := by simp [hv]
      simp -implicitDefEqProofs only [go_sem, dnW_ite, reduceIte, Nat.reduceAdd, Nat.reduceLeDiff, Nat.reduceMul, Nat.reduceEqDiff, Int.reduceLT, Int.reduceLE, Int.reduceToNat, Nat.reduceSub, Nat.reduceLT, Int.reduceEq, BitVec.reduceOfInt, BitVec.reduceOfNat, Int.reduceGT, Int.reduceGE, Int.reduceBEq, Int.reduceBNe, Nat.reduceGT, Nat.reduceBEq, Nat.reduceBNe, Int.reduceAdd, Int.reduceSub, Int.reduceNeg, hcd, hb, hin, inb hcd, r8 ha8, s9_rv E m.go xc sh ha8, ↓hv']
      exact hK _ _ (fin m.go rfl rfl)
theorem do_23 (h : SA E J b xc sh m) (x : Cd) (hx : x.wf) (size : Nat) (hr : x.right size m.bd.l.length E.moves.length = true) (hE : E.ok) (h6 : E.moves.length ≤ 32) (h0 : m.err = 0) (hok : m.r.ok) (hs : m.shows.length ≤ 1000) (hpc : m.pc ≤ 1000) (hop : x.op = 23) : RP (ic BI F_ref09_state_do [.ptr b 0 0, x.e] J) fun v J' => SO E b J sh J' (followF E m x) := by
  refine RP_run fn_ref09_state_do rfl fun K hK => ?_
  have hb := h.at'
  have hin := inb hb
  have hbl := m.bd.h
  obtain ⟨hop25, ha8, hb8⟩ := right_ab hr
  have hxw := hx
  obtain ⟨w1, w2, w3, w4, w5, w6⟩ := hx
  have hw1 := wrapS (i := m.pc) (n := 2000) (by omega) (by omega)
  have tt : ∀ j, (x.op == j) = (23 == j) := fun j => by rw [hop]
  have hgo : ∀ xc sh, sc9 E { m with pc := m.pc + 1 } xc sh = sc9 E m.go xc sh := fun _ _ => rfl
  have hg : SA E ((J.push (.cells 0 x.cs false)).setIfInBounds b (.cells 0 (sc9 E m.go xc sh) false)) b xc sh m.go := (h.push _).set m.go xc h.x rfl
  have u0 : Upd b J sh ((J.push (.cells 0 x.cs false)).setIfInBounds b (.cells 0 (sc9 E m.go xc sh) false)) sh := (Upd.push _).trans (Upd.set _)
  have hcd : ((J.push (.cells 0 x.cs false)).setIfInBounds b (.cells 0 (sc9 E m.go xc sh) false))[J.size]? = some (.cells 0 x.cs false) := gsN (by have := lt_get hb; omega) (push_get _ _)
  have fin : ∀ m' : Mc, m'.bd = m.bd → m'.shows = m.shows → SO E b J sh ((J.push (.cells 0 x.cs false)).setIfInBounds b (.cells 0 (sc9 E m' xc sh) false)) m' := fun m' e1 e2 => ⟨xc, sh, (h.push _).set m' xc (by rw [e1]; exact h.x) e2, (Upd.push _).trans (Upd.set _)⟩
  simp only [followF, hop] at hK
  simp [Cd.right, hop, useOf, nOk] at hr
  have hw2 : IntKind.u32.wrap x.n = x.n := wrap_u32 (by omega) (by omega)
  have q01 := below_rng m.go.dice x.n (by omega) (by omega)
  have hB := rBelow_ok m.go.dice x.n (by omega) (by omega)
  generalize below m.go.dice x.n = kk at *
  have hw3 : IntKind.i32.wrap kk = kk := wrap_i32 (by omega) (by omega)
  have t9r : ∀ m' : Mc, isplice (sc9 E m' xc sh) (6 + x.a * 2) [.int .i32 kk, .sc (.int .u32 0)] = sc9 E { m' with r := m'.r.set x.a ⟨kk, 0#32⟩ } xc sh := fun m' => t9_r E m' xc sh ha8 _ 0#32
  unfold l_ref09_state_do Cd.e
  unfold Cd.cs at *
  simp -implicitDefEqProofs only [go_sem, dnW_ite, reduceIte, Nat.reduceAdd, Nat.reduceLeDiff, Nat.reduceMul, Nat.reduceEqDiff, Int.reduceLT, Int.reduceLE, Int.reduceToNat, Nat.reduceSub, Nat.reduceLT, Int.reduceEq, BitVec.reduceOfInt, BitVec.reduceOfNat, Int.reduceGT, Int.reduceGE, Int.reduceBEq, Int.reduceBNe, Nat.reduceGT, Nat.reduceBEq, Nat.reduceBNe, Int.reduceAdd, Int.reduceSub, Int.reduceNeg, natBeqc, natBeqD, tt, hb, hin, r8 ha8, hw1, hgo, hw2, dcp hB rfl, hw3, ↓t9r]
  exact hK _ _ (fin _ rfl rfl)
theorem do_3 (h : SA E J b xc sh m) (x : Cd) (hx : x.wf) (size : Nat) (hr : x.right size m.bd.l.length E.moves.length = true) (hE : E.ok) (h6 : E.moves.length ≤ 32) (h0 : m.err = 0) (hok : m.r.ok) (hs : m.shows.length ≤ 1000) (hpc : m.pc ≤ 1000) (hop : x.op = 3) : RP (ic BI F_ref09_state_do [.ptr b 0 0, x.e] J) fun v J' => SO E b J sh J' (followF E m x) := by
  refine RP_run fn_ref09_state_do rfl fun K hK => ?_
  have hb := h.at'
  have hin := inb hb
  have hbl := m.bd.h
  obtain ⟨hop25, ha8, hb8⟩ := right_ab hr
  have hxw := hx
  obtain ⟨w1, w2, w3, w4, w5, w6⟩ := hx
  have hw1 := wrapS (i := m.pc) (n := 2000) (by omega) (by omega)
  have tt : ∀ j, (x.op == j) = (3 == j) := fun j => by rw [hop]
  have hgo : ∀ xc sh, sc9 E { m with pc := m.pc + 1 } xc sh = sc9 E m.go xc sh := fun _ _ => rfl
  have hg : SA E ((J.push (.cells 0 x.cs false)).setIfInBounds b (.cells 0 (sc9 E m.go xc sh) false)) b xc sh m.go := (h.push _).set m.go xc h.x rfl
  have u0 : Upd b J sh ((J.push (.cells 0 x.cs false)).setIfInBounds b (.cells 0 (sc9 E m.go xc sh) false)) sh := (Upd.push _).trans (Upd.set _)
  have hcd : ((J.push (.cells 0 x.cs false)).setIfInBounds b (.cells 0 (sc9 E m.go xc sh) false))[J.size]? = some (.cells 0 x.cs false) := gsN (by have := lt_get hb; omega) (push_get _ _)
  have fin : ∀ m' : Mc, m'.bd = m.bd → m'.shows = m.shows → SO E b J sh ((J.push (.cells 0 x.cs false)).setIfInBounds b (.cells 0 (sc9 E m' xc sh) false)) m' := fun m' e1 e2 => ⟨xc, sh, (h.push _).set m' xc (by rw [e1]; exact h.x) e2, (Upd.push _).trans (Upd.set _)⟩
  simp only [followF, hop] at hK
  simp [Cd.right, hop, useOf, nOk] at hr
  obtain ⟨k, hk⟩ : ∃ k : Nat, x.n = k := ⟨x.n.toNat, by omega⟩
  have hkl : k < m.go.bd.l.length := by show k < m.bd.l.length; omega
  have hw2 : IntKind.i64.wrap (k : Int) = k := wrap_i64 (by omega) (by omega)
  unfold l_ref09_state_do Cd.e
  unfold Cd.cs at *
  simp -implicitDefEqProofs only [go_sem, dnW_ite, reduceIte, Nat.reduceAdd, Nat.reduceLeDiff, Nat.reduceMul, Nat.reduceEqDiff, Int.reduceLT, Int.reduceLE, Int.reduceToNat, Nat.reduceSub, Nat.reduceLT, Int.reduceEq, BitVec.reduceOfInt, BitVec.reduceOfNat, Int.reduceGT, Int.reduceGE, Int.reduceBEq, Int.reduceBNe, Nat.reduceGT, Nat.reduceBEq, Nat.reduceBNe, Int.reduceAdd, Int.reduceSub, Int.reduceNeg, natBeqc, natBeqD, tt, hb, hin, r8 ha8, hw1, hgo, ↓t9_r E m.go xc sh ha8, hk, hw2, s9_r E m.go xc sh ha8]
  rw [← hk]
  have hset := rset_ok hg k hkl (m.go.r.at x.a)
  unfold nI at hset
  rw [← hk] at hset
  refine WP_call hset fun v J' hv => ?_
  simp -implicitDefEqProofs only [go_sem, dnW_ite, reduceIte, Nat.reduceAdd, Nat.reduceLeDiff, Nat.reduceMul, Nat.reduceEqDiff, Int.reduceLT, Int.reduceLE, Int.reduceToNat, Nat.reduceSub, Nat.reduceLT, Int.reduceEq, BitVec.reduceOfInt, BitVec.reduceOfNat, Int.reduceGT, Int.reduceGE, Int.reduceBEq, Int.reduceBNe, Nat.reduceGT, Nat.reduceBEq, Nat.reduceBNe, Int.reduceAdd, Int.reduceSub, Int.reduceNeg]
  exact hK _ _ (SO.trans u0 hv)
end Go.Proofs.Ytcdlipdeemlibaa.G
namespace Go.Proofs.Ytcdlipdeemlibaa.G
open Go
set_option linter.unusedSimpArgs false
set_option linter.unusedVariables false
set_option maxRecDepth 20000
set_option maxHeartbeats 2000000
variable {E : Me} {J : JH} {b : Nat} {m : Mc} {xc sh : IV}
theorem do_4 (h : SA E J b xc sh m) (x : Cd) (hx : x.wf) (size : Nat) (hr : x.right size m.bd.l.length E.moves.length = true) (hE : E.ok) (h6 : E.moves.length ≤ 32) (h0 : m.err = 0) (hok : m.r.ok) (hs : m.shows.length ≤ 1000) (hpc : m.pc ≤ 1000) (hop : x.op = 4) : RP (ic BI F_ref09_state_do [.ptr b 0 0, x.e] J) fun v J' => SO E b J sh J' (followF E m x) := by
  refine RP_run fn_ref09_state_do rfl fun K hK => ?_
  have hb := h.at'
  have hin := inb hb
  have hbl := m.bd.h
  obtain ⟨hop25, ha8, hb8⟩ := right_ab hr
  have hxw := hx
  obtain ⟨w1, w2, w3, w4, w5, w6⟩ := hx
  have hw1 := wrapS (i := m.pc) (n := 2000) (by omega) (by omega)
  have tt : ∀ j, (x.op == j) = (4 == j) := fun j => by rw [hop]
  have hgo : ∀ xc sh, sc9 E { m with pc := m.pc + 1 } xc sh = sc9 E m.go xc sh := fun _ _ => rfl
  have hg : SA E ((J.push (.cells 0 x.cs false)).setIfInBounds b (.cells 0 (sc9 E m.go xc sh) false)) b xc sh m.go := (h.push _).set m.go xc h.x rfl
  have u0 : Upd b J sh ((J.push (.cells 0 x.cs false)).setIfInBounds b (.cells 0 (sc9 E m.go xc sh) false)) sh := (Upd.push _).trans (Upd.set _)
  have hcd : ((J.push (.cells 0 x.cs false)).setIfInBounds b (.cells 0 (sc9 E m.go xc sh) false))[J.size]? = some (.cells 0 x.cs false) := gsN (by have := lt_get hb; omega) (push_get _ _)
  have fin : ∀ m' : Mc, m'.bd = m.bd → m'.shows = m.shows → SO E b J sh ((J.push (.cells 0 x.cs false)).setIfInBounds b (.cells 0 (sc9 E m' xc sh) false)) m' := fun m' e1 e2 => ⟨xc, sh, (h.push _).set m' xc (by rw [e1]; exact h.x) e2, (Upd.push _).trans (Upd.set _)⟩
  have ef : followF E m x = reachF E m.go x := by unfold followF; simp only [hop]
  rw [ef] at hK
  unfold reachF at hK
  simp only [hop] at hK
  simp [Cd.right, hop, useOf, nOk] at hr
  have h1 := rnamed_ok hg x hxw hb8 (show m.go.r.ok from hok) (show m.go.err = 0 from h0)
  unfold Cd.e Cd.cs at h1
  have hJb : J.size ≠ b := by have := lt_get hb; omega
  have hJs : J.size ∉ blk sh := fun hm => by have := h.g.low _ hm; omega
  have hbl2 : m.go.bd.l.length ≤ 48 := hbl
  unfold l_ref09_state_do Cd.e
  unfold Cd.cs at *
  simp -implicitDefEqProofs only [go_sem, dnW_ite, reduceIte, Nat.reduceAdd, Nat.reduceLeDiff, Nat.reduceMul, Nat.reduceEqDiff, Int.reduceLT, Int.reduceLE, Int.reduceToNat, Nat.reduceSub, Nat.reduceLT, Int.reduceEq, BitVec.reduceOfInt, BitVec.reduceOfNat, Int.reduceGT, Int.reduceGE, Int.reduceBEq, Int.reduceBNe, Nat.reduceGT, Nat.reduceBEq, Nat.reduceBNe, Int.reduceAdd, Int.reduceSub, Int.reduceNeg, natBeqc, natBeqD, tt, hb, hin, r8 ha8, hw1, hgo, ↓t9_r E m.go xc sh ha8]
  refine WP_call h1 fun v J2 hv => ?_
  obtain ⟨rfl, xc2, sh2, hs2, u2⟩ := hv
  have hcd2 := u2.keep hcd hJb hJs
  unfold Cd.cs at hcd2
  have u02 := u0.trans u2
  have hb2 := hs2.at'
  cases hn : (named E m.go x).2.1 with
  | false =>
    rw [hn] at hK
    simp -implicitDefEqProofs only [go_sem, dnW_ite, reduceIte, Nat.reduceAdd, Nat.reduceLeDiff, Nat.reduceMul, Nat.reduceEqDiff, Int.reduceLT, Int.reduceLE, Int.reduceToNat, Nat.reduceSub, Nat.reduceLT, Int.reduceEq, BitVec.reduceOfInt, BitVec.reduceOfNat, Int.reduceGT, Int.reduceGE, Int.reduceBEq, Int.reduceBNe, Nat.reduceGT, Nat.reduceBEq, Nat.reduceBNe, Int.reduceAdd, Int.reduceSub, Int.reduceNeg, show ¬ ((-1 : Int) ≥ 0) by decide]
    exact hK _ _ (SO.trans u0 ⟨xc2, sh2, hs2, u2⟩)
  | true =>
    obtain ⟨ht, he⟩ := named_ok hn
    rw [hn] at hK
    have e0 : ({ m.go with err := (named E m.go x).2.2 } : Mc) = m.go := by
      have : m.go.err = (named E m.go x).2.2 := by rw [he]; exact h0
      rw [← this]
    rw [e0] at hs2 hb2
    have hth : 0 ≤ (named E m.go x).1 ∧ (named E m.go x).1 < (m.go.bd.l.length : Int) := by simpa [Bd.there] using ht
    obtain ⟨j, hj⟩ : ∃ j : Nat, (named E m.go x).1 = j := ⟨(named E m.go x).1.toNat, by omega⟩
    have hjl : j < m.go.bd.l.length := by omega
    have hat := fun J => hs2.x.at (i := j) (by simpa using hjl) (J := J)
    simp only [List.getElem_map, Cl.e, Cl.c, bd_get m.go.bd hjl] at hat
    rw [hj] at hK
    rw [hj]
    have hge : (j : Int) ≥ 0 := by omega
    simp -implicitDefEqProofs only [go_sem, dnW_ite, reduceIte, Nat.reduceAdd, Nat.reduceLeDiff, Nat.reduceMul, Nat.reduceEqDiff, Int.reduceLT, Int.reduceLE, Int.reduceToNat, Nat.reduceSub, Nat.reduceLT, Int.reduceEq, BitVec.reduceOfInt, BitVec.reduceOfNat, Int.reduceGT, Int.reduceGE, Int.reduceBEq, Int.reduceBNe, Nat.reduceGT, Nat.reduceBEq, Nat.reduceBNe, Int.reduceAdd, Int.reduceSub, Int.reduceNeg, hge, hcd2, inb hcd2, hb2, inb hb2, hat, r8 ha8, ↓t9_r E m.go xc2 sh2 ha8]
    exact hK _ _ (SO.trans u02 ⟨xc2, sh2, hs2.set { m.go with r := m.go.r.set x.a (m.go.bd.at (j : Int)) } xc2 hs2.x rfl, Upd.set _⟩)
theorem do_5 (h : SA E J b xc sh m) (x : Cd) (hx : x.wf) (size : Nat) (hr : x.right size m.bd.l.length E.moves.length = true) (hE : E.ok) (h6 : E.moves.length ≤ 32) (h0 : m.err = 0) (hok : m.r.ok) (hs : m.shows.length ≤ 1000) (hpc : m.pc ≤ 1000) (hop : x.op = 5) : RP (ic BI F_ref09_state_do [.ptr b 0 0, x.e] J) fun v J' => SO E b J sh J' (followF E m x) := by
  refine RP_run fn_ref09_state_do rfl fun K hK => ?_
  have hb := h.at'
  have hin := inb hb
  have hbl := m.bd.h
  obtain ⟨hop25, ha8, hb8⟩ := right_ab hr
  have hxw := hx
  obtain ⟨w1, w2, w3, w4, w5, w6⟩ := hx
  have hw1 := wrapS (i := m.pc) (n := 2000) (by omega) (by omega)
  have tt : ∀ j, (x.op == j) = (5 == j) := fun j => by rw [hop]
  have hgo : ∀ xc sh, sc9 E { m with pc := m.pc + 1 } xc sh = sc9 E m.go xc sh := fun _ _ => rfl
  have hg : SA E ((J.push (.cells 0 x.cs false)).setIfInBounds b (.cells 0 (sc9 E m.go xc sh) false)) b xc sh m.go := (h.push _).set m.go xc h.x rfl
  have u0 : Upd b J sh ((J.push (.cells 0 x.cs false)).setIfInBounds b (.cells 0 (sc9 E m.go xc sh) false)) sh := (Upd.push _).trans (Upd.set _)
  have hcd : ((J.push (.cells 0 x.cs false)).setIfInBounds b (.cells 0 (sc9 E m.go xc sh) false))[J.size]? = some (.cells 0 x.cs false) := gsN (by have := lt_get hb; omega) (push_get _ _)
  have fin : ∀ m' : Mc, m'.bd = m.bd → m'.shows = m.shows → SO E b J sh ((J.push (.cells 0 x.cs false)).setIfInBounds b (.cells 0 (sc9 E m' xc sh) false)) m' := fun m' e1 e2 => ⟨xc, sh, (h.push _).set m' xc (by rw [e1]; exact h.x) e2, (Upd.push _).trans (Upd.set _)⟩
  have ef : followF E m x = reachF E m.go x := by unfold followF; simp only [hop]
  rw [ef] at hK
  unfold reachF at hK
  simp only [hop] at hK
  simp [Cd.right, hop, useOf, nOk] at hr
  have h1 := rnamed_ok hg x hxw hb8 (show m.go.r.ok from hok) (show m.go.err = 0 from h0)
  unfold Cd.e Cd.cs at h1
  have hJb : J.size ≠ b := by have := lt_get hb; omega
  have hJs : J.size ∉ blk sh := fun hm => by have := h.g.low _ hm; omega
  have hbl2 : m.go.bd.l.length ≤ 48 := hbl
  unfold l_ref09_state_do Cd.e
  unfold Cd.cs at *
  simp -implicitDefEqProofs only [go_sem, dnW_ite, reduceIte, Nat.reduceAdd, Nat.reduceLeDiff, Nat.reduceMul, Nat.reduceEqDiff, Int.reduceLT, Int.reduceLE, Int.reduceToNat, Nat.reduceSub, Nat.reduceLT, Int.reduceEq, BitVec.reduceOfInt, BitVec.reduceOfNat, Int.reduceGT, Int.reduceGE, Int.reduceBEq, Int.reduceBNe, Nat.reduceGT, Nat.reduceBEq, Nat.reduceBNe, Int.reduceAdd, Int.reduceSub, Int.reduceNeg, natBeqc, natBeqD, tt, hb, hin, r8 ha8, hw1, hgo, ↓t9_r E m.go xc sh ha8]
  refine WP_call h1 fun v J2 hv => ?_
  obtain ⟨rfl, xc2, sh2, hs2, u2⟩ := hv
  have hcd2 := u2.keep hcd hJb hJs
  unfold Cd.cs at hcd2
  have u02 := u0.trans u2
  have hb2 := hs2.at'
  cases hn : (named E m.go x).2.1 with
  | false =>
    rw [hn] at hK
    simp -implicitDefEqProofs only [go_sem, dnW_ite, reduceIte, Nat.reduceAdd, Nat.reduceLeDiff, Nat.reduceMul, Nat.reduceEqDiff, Int.reduceLT, Int.reduceLE, Int.reduceToNat, Nat.reduceSub, Nat.reduceLT, Int.reduceEq, BitVec.reduceOfInt, BitVec.reduceOfNat, Int.reduceGT, Int.reduceGE, Int.reduceBEq, Int.reduceBNe, Nat.reduceGT, Nat.reduceBEq, Nat.reduceBNe, Int.reduceAdd, Int.reduceSub, Int.reduceNeg, show ¬ ((-1 : Int) ≥ 0) by decide]
    exact hK _ _ (SO.trans u0 ⟨xc2, sh2, hs2, u2⟩)
  | true =>
    obtain ⟨ht, he⟩ := named_ok hn
    rw [hn] at hK
    have e0 : ({ m.go with err := (named E m.go x).2.2 } : Mc) = m.go := by
      have : m.go.err = (named E m.go x).2.2 := by rw [he]; exact h0
      rw [← this]
    rw [e0] at hs2 hb2
    have hth : 0 ≤ (named E m.go x).1 ∧ (named E m.go x).1 < (m.go.bd.l.length : Int) := by simpa [Bd.there] using ht
    obtain ⟨j, hj⟩ : ∃ j : Nat, (named E m.go x).1 = j := ⟨(named E m.go x).1.toNat, by omega⟩
    have hjl : j < m.go.bd.l.length := by omega
    have hat := fun J => hs2.x.at (i := j) (by simpa using hjl) (J := J)
    simp only [List.getElem_map, Cl.e, Cl.c, bd_get m.go.bd hjl] at hat
    rw [hj] at hK
    rw [hj]
    have hge : (j : Int) ≥ 0 := by omega
    simp -implicitDefEqProofs only [go_sem, dnW_ite, reduceIte, Nat.reduceAdd, Nat.reduceLeDiff, Nat.reduceMul, Nat.reduceEqDiff, Int.reduceLT, Int.reduceLE, Int.reduceToNat, Nat.reduceSub, Nat.reduceLT, Int.reduceEq, BitVec.reduceOfInt, BitVec.reduceOfNat, Int.reduceGT, Int.reduceGE, Int.reduceBEq, Int.reduceBNe, Nat.reduceGT, Nat.reduceBEq, Nat.reduceBNe, Int.reduceAdd, Int.reduceSub, Int.reduceNeg, hge, hcd2, inb hcd2, hb2, inb hb2, r8 ha8, s9_r E m.go xc2 sh2 ha8]
    refine WP_call (rset_ok hs2 j hjl (m.go.r.at x.a)) fun v J3 hv => ?_
    simp -implicitDefEqProofs only [go_sem, dnW_ite, reduceIte, Nat.reduceAdd, Nat.reduceLeDiff, Nat.reduceMul, Nat.reduceEqDiff, Int.reduceLT, Int.reduceLE, Int.reduceToNat, Nat.reduceSub, Nat.reduceLT, Int.reduceEq, BitVec.reduceOfInt, BitVec.reduceOfNat, Int.reduceGT, Int.reduceGE, Int.reduceBEq, Int.reduceBNe, Nat.reduceGT, Nat.reduceBEq, Nat.reduceBNe, Int.reduceAdd, Int.reduceSub, Int.reduceNeg]
    exact hK _ _ (SO.trans u02 hv)
end Go.Proofs.Ytcdlipdeemlibaa.G
namespace Go.Proofs.Ytcdlipdeemlibaa.G
open Go
set_option linter.unusedSimpArgs false
set_option linter.unusedVariables false
set_option maxRecDepth 20000
set_option maxHeartbeats 2000000
variable {E : Me} {J : JH} {b : Nat} {m : Mc} {xc sh : IV}
theorem put_show (d : Bd) (j : Int) (f : BitVec 32) : d.put j ⟨(d.at j).v, (d.at j).s ||| f⟩ = d.show j f := rfl
theorem fits16' {n : Nat} (h : n ≤ 1000000) : fits n 16 = true := by
  simp only [fits, Bool.and_eq_true, decide_eq_true_eq]
  omega
theorem do_22 (h : SA E J b xc sh m) (x : Cd) (hx : x.wf) (size : Nat) (hr : x.right size m.bd.l.length E.moves.length = true) (hE : E.ok) (h6 : E.moves.length ≤ 32) (h0 : m.err = 0) (hok : m.r.ok) (hs : m.shows.length ≤ 1000) (hpc : m.pc ≤ 1000) (hop : x.op = 22) : RP (ic BI F_ref09_state_do [.ptr b 0 0, x.e] J) fun v J' => SO E b J sh J' (followF E m x) := by
  refine RP_run fn_ref09_state_do rfl fun K hK => ?_
  have hb := h.at'
  have hin := inb hb
  have hbl := m.bd.h
  obtain ⟨hop25, ha8, hb8⟩ := right_ab hr
  have hxw := hx
  obtain ⟨w1, w2, w3, w4, w5, w6⟩ := hx
  have hw1 := wrapS (i := m.pc) (n := 2000) (by omega) (by omega)
  have tt : ∀ j, (x.op == j) = (22 == j) := fun j => by rw [hop]
  have hgo : ∀ xc sh, sc9 E { m with pc := m.pc + 1 } xc sh = sc9 E m.go xc sh := fun _ _ => rfl
  have hg : SA E ((J.push (.cells 0 x.cs false)).setIfInBounds b (.cells 0 (sc9 E m.go xc sh) false)) b xc sh m.go := (h.push _).set m.go xc h.x rfl
  have u0 : Upd b J sh ((J.push (.cells 0 x.cs false)).setIfInBounds b (.cells 0 (sc9 E m.go xc sh) false)) sh := (Upd.push _).trans (Upd.set _)
  have hcd : ((J.push (.cells 0 x.cs false)).setIfInBounds b (.cells 0 (sc9 E m.go xc sh) false))[J.size]? = some (.cells 0 x.cs false) := gsN (by have := lt_get hb; omega) (push_get _ _)
  have fin : ∀ m' : Mc, m'.bd = m.bd → m'.shows = m.shows → SO E b J sh ((J.push (.cells 0 x.cs false)).setIfInBounds b (.cells 0 (sc9 E m' xc sh) false)) m' := fun m' e1 e2 => ⟨xc, sh, (h.push _).set m' xc (by rw [e1]; exact h.x) e2, (Upd.push _).trans (Upd.set _)⟩
  have ef : followF E m x = reachF E m.go x := by unfold followF; simp only [hop]
  rw [ef] at hK
  unfold reachF at hK
  simp only [hop] at hK
  simp [Cd.right, hop, useOf, nOk] at hr
  have h1 := rnamed_ok hg x hxw hb8 (show m.go.r.ok from hok) (show m.go.err = 0 from h0)
  unfold Cd.e Cd.cs at h1
  have hJb : J.size ≠ b := by have := lt_get hb; omega
  have hJs : J.size ∉ blk sh := fun hm => by have := h.g.low _ hm; omega
  have hbl2 : m.go.bd.l.length ≤ 48 := hbl
  unfold l_ref09_state_do Cd.e
  unfold Cd.cs at *
  simp -implicitDefEqProofs only [go_sem, dnW_ite, reduceIte, Nat.reduceAdd, Nat.reduceLeDiff, Nat.reduceMul, Nat.reduceEqDiff, Int.reduceLT, Int.reduceLE, Int.reduceToNat, Nat.reduceSub, Nat.reduceLT, Int.reduceEq, BitVec.reduceOfInt, BitVec.reduceOfNat, Int.reduceGT, Int.reduceGE, Int.reduceBEq, Int.reduceBNe, Nat.reduceGT, Nat.reduceBEq, Nat.reduceBNe, Int.reduceAdd, Int.reduceSub, Int.reduceNeg, natBeqc, natBeqD, tt, hb, hin, r8 ha8, hw1, hgo, ↓t9_r E m.go xc sh ha8]
  refine WP_call h1 fun v J2 hv => ?_
  obtain ⟨rfl, xc2, sh2, hs2, u2⟩ := hv
  have hcd2 := u2.keep hcd hJb hJs
  unfold Cd.cs at hcd2
  have u02 := u0.trans u2
  have hb2 := hs2.at'
  cases hn : (named E m.go x).2.1 with
  | false =>
    simp -implicitDefEqProofs only [go_sem, dnW_ite, reduceIte, Nat.reduceAdd, Nat.reduceLeDiff, Nat.reduceMul, Nat.reduceEqDiff, Int.reduceLT, Int.reduceLE, Int.reduceToNat, Nat.reduceSub, Nat.reduceLT, Int.reduceEq, BitVec.reduceOfInt, BitVec.reduceOfNat, Int.reduceGT, Int.reduceGE, Int.reduceBEq, Int.reduceBNe, Nat.reduceGT, Nat.reduceBEq, Nat.reduceBNe, Int.reduceAdd, Int.reduceSub, Int.reduceNeg, show ¬ ((-1 : Int) ≥ 0) by decide]
    unfold revealF at hK
    rw [if_pos hn] at hK
    exact hK _ _ (SO.trans u0 ⟨xc2, sh2, hs2, u2⟩)
  | true =>
    obtain ⟨ht, he⟩ := named_ok hn
    have e0 : ({ m.go with err := (named E m.go x).2.2 } : Mc) = m.go := by
      have : m.go.err = (named E m.go x).2.2 := by rw [he]; exact h0
      rw [← this]
    rw [e0] at hs2 hb2
    have hth : 0 ≤ (named E m.go x).1 ∧ (named E m.go x).1 < (m.go.bd.l.length : Int) := by simpa [Bd.there] using ht
    obtain ⟨j, hj⟩ : ∃ j : Nat, (named E m.go x).1 = j := ⟨(named E m.go x).1.toNat, by omega⟩
    have hjl : j < m.go.bd.l.length := by omega
    have hat := fun J => hs2.x.at (i := j) (by simpa using hjl) (J := J)
    simp only [List.getElem_map, Cl.e, Cl.c, bd_get m.go.bd hjl] at hat
    rw [hj]
    have hge : (j : Int) ≥ 0 := by omega
    unfold revealF at hK
    rw [hn, if_neg (by decide), hj, he] at hK
    have hJ2 := lt_get hb2
    have hput := put_show m.go.bd (j : Int) (Sh.one m.go x E.all (j : Int))
    have hone : Sh.one m.go x E.all (j : Int) = x.mask &&& E.all &&& ~~~(m.go.bd.at (j : Int)).s := rfl
    simp -implicitDefEqProofs only [go_sem, dnW_ite, reduceIte, Nat.reduceAdd, Nat.reduceLeDiff, Nat.reduceMul, Nat.reduceEqDiff, Int.reduceLT, Int.reduceLE, Int.reduceToNat, Nat.reduceSub, Nat.reduceLT, Int.reduceEq, BitVec.reduceOfInt, BitVec.reduceOfNat, Int.reduceGT, Int.reduceGE, Int.reduceBEq, Int.reduceBNe, Nat.reduceGT, Nat.reduceBEq, Nat.reduceBNe, Int.reduceAdd, Int.reduceSub, Int.reduceNeg, hge, hcd2, inb hcd2, hb2, inb hb2, hat, ← hone]
    generalize hc : m.go.bd.at (j : Int) = c at *
    generalize Sh.one m.go x E.all (j : Int) = fr at *
    have hlow2 : J2.size ∉ blk sh2 := fun hm => by have := hs2.g.low _ hm; omega
    refine WP_call (rset_ok (hs2.push (.cells 0 [.int .i32 c.v, m32 (c.s ||| fr)] false)) j hjl ⟨c.v, c.s ||| fr⟩) fun v J3 hv => ?_
    obtain ⟨xc3, shw, hs3, u3⟩ := hv
    have hX := u3.keep (push_get J2 (.cells 0 [.int .i32 c.v, m32 (c.s ||| fr)] false)) (by omega) hlow2
    have hb3 := hs3.at'
    have u03 := u02.trans ((Upd.push _).trans u3)
    rw [hput] at hs3 hb3
    have hgt := mgt0 fr
    by_cases hf : fr = 0#32
    · have hgt' : ((fr.toNat : Int) > 0) = False := by rw [hgt]; simp [hf]
      rw [if_pos hf, List.append_nil] at hK
      simp -implicitDefEqProofs only [go_sem, dnW_ite, reduceIte, Nat.reduceAdd, Nat.reduceLeDiff, Nat.reduceMul, Nat.reduceEqDiff, Int.reduceLT, Int.reduceLE, Int.reduceToNat, Nat.reduceSub, Nat.reduceLT, Int.reduceEq, BitVec.reduceOfInt, BitVec.reduceOfNat, Int.reduceGT, Int.reduceGE, Int.reduceBEq, Int.reduceBNe, Nat.reduceGT, Nat.reduceBEq, Nat.reduceBNe, Int.reduceAdd, Int.reduceSub, Int.reduceNeg, hgt']
      refine hK _ _ (SO.trans u03 ⟨xc3, shw, ?_, .refl⟩)
      have e9 : m.go.err = 0 := h0
      have := hs3
      rw [← e9]
      exact hs3
    · have hgt' : ((fr.toNat : Int) > 0) = True := by rw [hgt]; simp [hf]
      rw [if_neg hf] at hK
      simp -implicitDefEqProofs only [go_sem, dnW_ite, reduceIte, Nat.reduceAdd, Nat.reduceLeDiff, Nat.reduceMul, Nat.reduceEqDiff, Int.reduceLT, Int.reduceLE, Int.reduceToNat, Nat.reduceSub, Nat.reduceLT, Int.reduceEq, BitVec.reduceOfInt, BitVec.reduceOfNat, Int.reduceGT, Int.reduceGE, Int.reduceBEq, Int.reduceBNe, Nat.reduceGT, Nat.reduceBEq, Nat.reduceBNe, Int.reduceAdd, Int.reduceSub, Int.reduceNeg, hgt', hb3, inb hb3, hX, inb hX, ipureL, ipure, grp, mkE]
      refine WP_bind (hs3.g.app (m := 1) (ds := [.int .i64 (j : Int), m32 fr, .int .i32 c.v]) (by decide) rfl rfl rfl rfl (fits16' ?_)) fun s4 J4 hs4 => ?_
      · have hgs : m.go.shows.length = m.shows.length := rfl
        rw [flat_len (sh3 _)]; simp; omega
      obtain ⟨k1, k2, k3⟩ := hs4
      have hb4 : J4[b]? = some (.cells 0 (sc9 E { m.go with bd := m.go.bd.show (j : Int) fr, touched := m.go.touched ||| bit (j : Int) } xc3 shw) false) := by rw [k2.2 b (lt_get hb3) hs3.out]; exact hb3
      have hb4o : b ∉ blk s4 := fun hm => by
        rcases k3 b hm with hm | hm
        · exact hs3.out hm
        · have := lt_get hb3; omega
      simp -implicitDefEqProofs only [go_sem, dnW_ite, reduceIte, Nat.reduceAdd, Nat.reduceLeDiff, Nat.reduceMul, Nat.reduceEqDiff, Int.reduceLT, Int.reduceLE, Int.reduceToNat, Nat.reduceSub, Nat.reduceLT, Int.reduceEq, BitVec.reduceOfInt, BitVec.reduceOfNat, Int.reduceGT, Int.reduceGE, Int.reduceBEq, Int.reduceBNe, Nat.reduceGT, Nat.reduceBEq, Nat.reduceBNe, Int.reduceAdd, Int.reduceSub, Int.reduceNeg, hb4, inb hb4, ↓k1.icells, ↓k1.one]
      refine hK _ _ (SO.trans u03 ⟨xc3, s4, ⟨by have e9 : m.go.err = 0 := h0; rw [gsE rfl (lt_get hb4)]; simp only [sc9, e9], hs3.x, hb4o, ?_⟩, ?_, ?_⟩)
      · have := k1.fr (Fr.set J4 (b := b) (.cells 0 (sc9 E { m.go with bd := m.go.bd.show (j : Int) fr, touched := m.go.touched ||| bit (j : Int) } xc3 s4) false) (S := [b]) (by simp)) (fun d hd hm => by simp at hm; subst hm; exact hb4o hd)
        simp only [List.map_append, List.flatten_append]
        exact this
      · exact Fr.trans (S := b :: blk shw) ⟨k2.1, fun d hd hn => k2.2 d hd (fun hm => hn (List.mem_cons_of_mem _ hm))⟩ (Fr.set J4 (b := b) _ (S := [b]) (by simp)) (fun d _ hm => by simp at hm; subst hm; exact List.mem_cons_self)
      · exact k3
end Go.Proofs.Ytcdlipdeemlibaa.G
namespace Go.Proofs.Ytcdlipdeemlibaa.G
open Go
set_option linter.unusedSimpArgs false
set_option linter.unusedVariables false
set_option maxRecDepth 20000
set_option maxHeartbeats 2000000
variable {E : Me} {J : JH} {b : Nat} {m : Mc} {xc sh : IV}
theorem SA.fr {J' : JH} {S : List Nat} (h : SA E J b xc sh m) (hf : Fr J J' S) (hb : b ∉ S) (hs : ∀ c ∈ blk sh, c ∉ S) : SA E J' b xc sh m :=
  ⟨by rw [hf.2 b (lt_get h.at') hb]; exact h.at', h.x, h.out, h.g.fr hf hs⟩
theorem rowV_succ (m : Mc) (start k : Nat) : rowV m start (k + 1) = rowV m start k ++ [(m.bd.at ((start + k : Nat) : Int)).v] := by simp [rowV, List.range_succ]
theorem shuf_fill (h : SA E J b xc sh m) (x : Cd) (p start : Nat) (hp : J[p]? = some (.cells 0 x.cs false)) (hpb : p ≠ b) (hps : p ∉ blk sh) (hxn : x.n = start) (hs : start ≤ 1000) (out : List Int) (u : IV) (hu : Ls 1 u (out.map (IV.int .i32))) (hl : start + out.length ≤ m.bd.l.length) (K : Out IV → JH → Prop)
    (hK : ∀ J', SO E b J sh J' (fillN m start out out.length) → K (.ret []) J') :
    WP (iter (dn BI l_ref09_state_do_k2) 1 [.ptr b 0 0, .ptr p 0 0, u, nI out.length, nI 0] J) K := by
  have hbl := m.bd.h
  refine WP_rangeT out.length (fun k vs J' => vs = [.ptr b 0 0, .ptr p 0 0, u, nI out.length, nI k] ∧ ∃ xc' sh', SA E J' b xc' sh' (fillN m start out k) ∧ Upd b J sh J' sh' ∧ J'[p]? = some (.cells 0 x.cs false) ∧ p ∉ blk sh') ?_ ⟨rfl, xc, sh, h, .refl, hp, hps⟩
  rintro k vs J1 ⟨rfl, xc1, sh1, h1, u1, hp1, hps1⟩ hk K1 g1 g2 g3
  unfold l_ref09_state_do_k2
  by_cases hlt : k < out.length
  · have hat := fun J => hu.at (i := k) (by simpa using hlt) (J := J)
    simp only [List.getElem_map] at hat
    have hw1 := wrapS hlt (show out.length ≤ 9223372036854775807 by omega)
    have hw2 : IntKind.i64.wrap x.n = (start : Int) := by rw [hxn]; exact wrap_i64 (by omega) (by omega)
    have hw3 : IntKind.i64.wrap ((start : Int) + (k : Int)) = ((start + k : Nat) : Int) := by rw [wrap_i64 (by omega) (by omega)]; omega
    unfold Cd.cs at hp1
    simp -implicitDefEqProofs only [go_sem, dnW_ite, reduceIte, Nat.reduceAdd, Nat.reduceLeDiff, Nat.reduceMul, Nat.reduceEqDiff, Int.reduceLT, Int.reduceLE, Int.reduceToNat, Nat.reduceSub, Nat.reduceLT, Int.reduceEq, BitVec.reduceOfInt, BitVec.reduceOfNat, Int.reduceGT, Int.reduceGE, Int.reduceBEq, Int.reduceBNe, Nat.reduceGT, Nat.reduceBEq, Nat.reduceBNe, Int.reduceAdd, Int.reduceSub, Int.reduceNeg, show ((k : Int) < (out.length : Int)) by omega, hat, hp1, inb hp1, hw2, hw3]
    have hfl := fillN_len m start out k
    refine WP_call (rset_ok h1 (start + k) (by rw [hfl]; omega) ⟨out[k], 0#32⟩) fun v J2 hv => ?_
    obtain ⟨xc2, sh2, h2, u2⟩ := hv
    have hp2 := u2.keep hp1 hpb hps1
    have hps2 := u2.out (lt_get hp1) hps1
    simp -implicitDefEqProofs only [go_sem, dnW_ite, reduceIte, Nat.reduceAdd, Nat.reduceLeDiff, Nat.reduceMul, Nat.reduceEqDiff, Int.reduceLT, Int.reduceLE, Int.reduceToNat, Nat.reduceSub, Nat.reduceLT, Int.reduceEq, BitVec.reduceOfInt, BitVec.reduceOfNat, Int.reduceGT, Int.reduceGE, Int.reduceBEq, Int.reduceBNe, Nat.reduceGT, Nat.reduceBEq, Nat.reduceBNe, Int.reduceAdd, Int.reduceSub, Int.reduceNeg, hw1]
    refine g1 hlt _ _ ⟨rfl, xc2, sh2, ?_, u1.trans u2, hp2, hps2⟩
    rw [fillN]
    have hgd : out.getD k 0 = out[k] := by simp [hlt]
    rw [hgd]; exact h2
  · simp -implicitDefEqProofs only [go_sem, dnW_ite, reduceIte, Nat.reduceAdd, Nat.reduceLeDiff, Nat.reduceMul, Nat.reduceEqDiff, Int.reduceLT, Int.reduceLE, Int.reduceToNat, Nat.reduceSub, Nat.reduceLT, Int.reduceEq, BitVec.reduceOfInt, BitVec.reduceOfNat, Int.reduceGT, Int.reduceGE, Int.reduceBEq, Int.reduceBNe, Nat.reduceGT, Nat.reduceBEq, Nat.reduceBNe, Int.reduceAdd, Int.reduceSub, Int.reduceNeg, show ¬ ((k : Int) < (out.length : Int)) by omega]
    obtain rfl : k = out.length := by omega
    exact g3 _ _ (hK _ ⟨xc1, sh1, h1, u1⟩)
theorem do_24 (h : SA E J b xc sh m) (x : Cd) (hx : x.wf) (size : Nat) (hr : x.right size m.bd.l.length E.moves.length = true) (hE : E.ok) (h6 : E.moves.length ≤ 32) (h0 : m.err = 0) (hok : m.r.ok) (hs : m.shows.length ≤ 1000) (hpc : m.pc ≤ 1000) (hop : x.op = 24) : RP (ic BI F_ref09_state_do [.ptr b 0 0, x.e] J) fun v J' => SO E b J sh J' (followF E m x) := by
  refine RP_run fn_ref09_state_do rfl fun K hK => ?_
  have hb := h.at'
  have hin := inb hb
  have hbl := m.bd.h
  obtain ⟨hop25, ha8, hb8⟩ := right_ab hr
  have hxw := hx
  obtain ⟨w1, w2, w3, w4, w5, w6⟩ := hx
  have hw1 := wrapS (i := m.pc) (n := 2000) (by omega) (by omega)
  have tt : ∀ j, (x.op == j) = (24 == j) := fun j => by rw [hop]
  have hgo : ∀ xc sh, sc9 E { m with pc := m.pc + 1 } xc sh = sc9 E m.go xc sh := fun _ _ => rfl
  have hg : SA E ((J.push (.cells 0 x.cs false)).setIfInBounds b (.cells 0 (sc9 E m.go xc sh) false)) b xc sh m.go := (h.push _).set m.go xc h.x rfl
  have u0 : Upd b J sh ((J.push (.cells 0 x.cs false)).setIfInBounds b (.cells 0 (sc9 E m.go xc sh) false)) sh := (Upd.push _).trans (Upd.set _)
  have hcd : ((J.push (.cells 0 x.cs false)).setIfInBounds b (.cells 0 (sc9 E m.go xc sh) false))[J.size]? = some (.cells 0 x.cs false) := gsN (by have := lt_get hb; omega) (push_get _ _)
  have fin : ∀ m' : Mc, m'.bd = m.bd → m'.shows = m.shows → SO E b J sh ((J.push (.cells 0 x.cs false)).setIfInBounds b (.cells 0 (sc9 E m' xc sh) false)) m' := fun m' e1 e2 => ⟨xc, sh, (h.push _).set m' xc (by rw [e1]; exact h.x) e2, (Upd.push _).trans (Upd.set _)⟩
  have ef : followF E m x = shuffleF m.go x.n.toNat x.c := by unfold followF reachF; simp only [hop]
  rw [ef] at hK
  simp [Cd.right, hop, useOf, nOk] at hr
  obtain ⟨start, hst⟩ : ∃ k : Nat, x.n = k := ⟨x.n.toNat, by omega⟩
  have hxc : start + x.c ≤ m.bd.l.length := by omega
  have hJb : J.size ≠ b := by have := lt_get hb; omega
  have hJs : J.size ∉ blk sh := fun hm => by have := h.g.low _ hm; omega
  unfold l_ref09_state_do Cd.e
  unfold Cd.cs at *
  simp -implicitDefEqProofs only [go_sem, dnW_ite, reduceIte, Nat.reduceAdd, Nat.reduceLeDiff, Nat.reduceMul, Nat.reduceEqDiff, Int.reduceLT, Int.reduceLE, Int.reduceToNat, Nat.reduceSub, Nat.reduceLT, Int.reduceEq, BitVec.reduceOfInt, BitVec.reduceOfNat, Int.reduceGT, Int.reduceGE, Int.reduceBEq, Int.reduceBNe, Nat.reduceGT, Nat.reduceBEq, Nat.reduceBNe, Int.reduceAdd, Int.reduceSub, Int.reduceNeg, natBeqc, natBeqD, tt, hb, hin, r8 ha8, hw1, hgo, ↓t9_r E m.go xc sh ha8, dn_loop]
  have hlt := lt_get hb
  refine WP_range (by decide) x.c (fun k vs J' => ∃ l, vs = [.ptr b 0 0, .ptr J.size 0 0, l, nI k] ∧ Grow J' l 1 ((rowV m start k).map (IV.int .i32)) ∧ (∀ d ∈ blk l, J.size < d) ∧ Fr ((J.push (.cells 0 [.int .u8 (x.op : Int), .int .u8 (x.a : Int), .int .u8 (x.b : Int), .int .u8 (x.c : Int), .int .i32 x.n, m32 x.mask] false)).setIfInBounds b (.cells 0 (sc9 E m.go xc sh) false)) J' []) ?_ ⟨_, rfl, .nil, by simp [blk, blkOf], .refl _ _⟩
  rintro k vs J1 ⟨l, rfl, hl, hlow, hf⟩ hk K1 g1 g2 g3
  have hb1 : J1[b]? = some (.cells 0 (sc9 E m.go xc sh) false) := by rw [hf.2 b (lt_get hg.at') (by simp)]; exact hg.at'
  have hcd1 := hcd
  rw [← hf.2 _ (lt_get hcd) (by simp)] at hcd1
  have hcn : IntKind.i64.wrap (x.c : Int) = (x.c : Int) := wrap_i64 (by omega) (by omega)
  unfold l_ref09_state_do_k1
  by_cases hkc : k < x.c
  · have hw2 : IntKind.i64.wrap x.n = (start : Int) := by rw [hst]; exact wrap_i64 (by omega) (by omega)
    have hw3 : IntKind.i64.wrap ((start : Int) + (k : Int)) = ((start + k : Nat) : Int) := by rw [wrap_i64 (by omega) (by omega)]; omega
    have hkl : start + k < m.bd.l.length := by omega
    have hat := fun J => h.x.at (i := start + k) (by simpa using hkl) (J := J)
    simp only [List.getElem_map, Cl.e, Cl.c, bd_get m.bd hkl] at hat
    have hw4 := wrapS hkc (show x.c ≤ 9223372036854775807 by omega)
    simp -implicitDefEqProofs only [go_sem, dnW_ite, reduceIte, Nat.reduceAdd, Nat.reduceLeDiff, Nat.reduceMul, Nat.reduceEqDiff, Int.reduceLT, Int.reduceLE, Int.reduceToNat, Nat.reduceSub, Nat.reduceLT, Int.reduceEq, BitVec.reduceOfInt, BitVec.reduceOfNat, Int.reduceGT, Int.reduceGE, Int.reduceBEq, Int.reduceBNe, Nat.reduceGT, Nat.reduceBEq, Nat.reduceBNe, Int.reduceAdd, Int.reduceSub, Int.reduceNeg, hcd1, inb hcd1, hcn, show ((k : Int) < (x.c : Int)) by omega, hb1, inb hb1, hw2, hw3, hat, ipureL, ipure, grp, mkE, List.headD]
    refine WP_bind (hl.app (m := 1) (ds := [.int .i32 (m.bd.at ((start + k : Nat) : Int)).v]) (by decide) rfl rfl rfl rfl (fits4 ?_)) fun l' J2 hs2 => ?_
    · rw [List.length_map, rowV_len]; omega
    obtain ⟨k1, k2, k3⟩ := hs2
    simp -implicitDefEqProofs only [go_sem, dnW_ite, reduceIte, Nat.reduceAdd, Nat.reduceLeDiff, Nat.reduceMul, Nat.reduceEqDiff, Int.reduceLT, Int.reduceLE, Int.reduceToNat, Nat.reduceSub, Nat.reduceLT, Int.reduceEq, BitVec.reduceOfInt, BitVec.reduceOfNat, Int.reduceGT, Int.reduceGE, Int.reduceBEq, Int.reduceBNe, Nat.reduceGT, Nat.reduceBEq, Nat.reduceBNe, Int.reduceAdd, Int.reduceSub, Int.reduceNeg, hw4]
    refine g1 hkc _ _ ⟨l', rfl, by rw [rowV_succ, List.map_append]; exact k1, fun d hd => ?_, ?_⟩
    · rcases k3 d hd with hm | hm
      · exact hlow d hm
      · have := lt_get hcd1; omega
    · refine ⟨Nat.le_trans hf.1 k2.1, fun d hd _ => ?_⟩
      rw [k2.2 d (Nat.lt_of_lt_of_le hd hf.1) (fun hm => by have := hlow d hm; simp at hd; omega), hf.2 d hd (by simp)]
  · simp -implicitDefEqProofs only [go_sem, dnW_ite, reduceIte, Nat.reduceAdd, Nat.reduceLeDiff, Nat.reduceMul, Nat.reduceEqDiff, Int.reduceLT, Int.reduceLE, Int.reduceToNat, Nat.reduceSub, Nat.reduceLT, Int.reduceEq, BitVec.reduceOfInt, BitVec.reduceOfNat, Int.reduceGT, Int.reduceGE, Int.reduceBEq, Int.reduceBNe, Nat.reduceGT, Nat.reduceBEq, Nat.reduceBNe, Int.reduceAdd, Int.reduceSub, Int.reduceNeg, hcd1, inb hcd1, hcn, show ¬ ((k : Int) < (x.c : Int)) by omega]
    have hkx : k = x.c := by omega
    rw [hkx] at hl
    refine g2 _ _ ?_
    unfold l_ref09_state_do_k3
    have hrow : (rowV m start x.c).length = x.c := rowV_len _ _ _
    have hne : rowV m start x.c ≠ [] := fun e => by rw [e] at hrow; simp at hrow; omega
    obtain ⟨f1, hf1⟩ : ∃ f1, frz J1 DEP l = some (.lst 1 f1 ((rowV m start x.c).map (IV.int .i32))) := by
      obtain ⟨u, hu, hul⟩ := hl.frzE1 ints_pure ints_ione
      rcases hul with ⟨_, e⟩ | ⟨f, rfl⟩
      · exact absurd (List.map_eq_nil_iff.1 e) hne
      · exact ⟨f, hu 11⟩
    obtain ⟨w, hS, hwl⟩ := rShuffle_ok f1 m.dice (rowV m start x.c) hne (by omega)
    rw [hrow] at hS hwl
    have hshl := shufL_len (x.c - 1) m.dice (rowV m start x.c)
    rw [hrow] at hshl
    have hK' : ∀ J', SO E b J sh J' (fillN { m.go with dice := (shufL m.dice (x.c - 1) (rowV m start x.c)).2 } start (shufL m.dice (x.c - 1) (rowV m start x.c)).1 x.c) → K (.ret []) J' := fun J' hh => hK _ _ (by
      rw [hst, Int.toNat_natCast]
      exact hh)
    generalize shufL m.dice (x.c - 1) (rowV m start x.c) = SH at *
    have hdi : m.go.dice = m.dice := rfl
    have hsh : ∀ d ∈ shows J1 DEP l, d ∈ blk l := hl.shows ints_pure
    simp -implicitDefEqProofs only [go_sem, dnW_ite, reduceIte, Nat.reduceAdd, Nat.reduceLeDiff, Nat.reduceMul, Nat.reduceEqDiff, Int.reduceLT, Int.reduceLE, Int.reduceToNat, Nat.reduceSub, Nat.reduceLT, Int.reduceEq, BitVec.reduceOfInt, BitVec.reduceOfNat, Int.reduceGT, Int.reduceGE, Int.reduceBEq, Int.reduceBNe, Nat.reduceGT, Nat.reduceBEq, Nat.reduceBNe, Int.reduceAdd, Int.reduceSub, Int.reduceNeg, hb1, inb hb1, hdi]
    refine WP_callK (S := blk l) (.pure rfl (.raw hf1 hsh .nil)) hS fun J2 f2 z2 kc2 => ?_
    have hb2 : J2[b]? = some (.cells 0 (sc9 E m.go xc sh) false) := by rw [f2.2 b (lt_get hb1) (fun hm => by have := hlow _ hm; omega)]; exact hb1
    have hcd2 := hcd1
    rw [← f2.2 _ (lt_get hcd1) (fun hm => by have := hlow _ hm; omega)] at hcd2
    have hgo2 : SA E J2 b xc sh m.go := (hg.fr hf (by simp) (by simp)).fr f2 (fun hm => by have := hlow _ hm; omega) (fun c hc hm => by have := hlow _ hm; have := h.g.low _ hc; omega)
    have t91 : ∀ m' : Mc, isplice (sc9 E m' xc sh) 1 [.int .u64 SH.2] = sc9 E { m' with dice := SH.2 } xc sh := fun m' => t9_1 E m' xc sh _
    simp -implicitDefEqProofs only [go_sem, dnW_ite, reduceIte, Nat.reduceAdd, Nat.reduceLeDiff, Nat.reduceMul, Nat.reduceEqDiff, Int.reduceLT, Int.reduceLE, Int.reduceToNat, Nat.reduceSub, Nat.reduceLT, Int.reduceEq, BitVec.reduceOfInt, BitVec.reduceOfNat, Int.reduceGT, Int.reduceGE, Int.reduceBEq, Int.reduceBNe, Nat.reduceGT, Nat.reduceBEq, Nat.reduceBNe, Int.reduceAdd, Int.reduceSub, Int.reduceNeg, hb2, inb hb2, ↓t91, hwl.lenF, List.length_map, hshl, dn_loop]
    have hup : Upd b J sh J2 sh := ⟨⟨by have := u0.1.1; have := hf.1; have := f2.1; omega, fun d hd hn => by
      rw [f2.2 d (by have := u0.1.1; have := hf.1; omega) (fun hm => by have := hlow _ hm; omega), hf.2 d (by have := u0.1.1; omega) (by simp)]
      exact u0.1.2 d hd hn⟩, fun c hc => .inl hc⟩
    have hset := hgo2.set { m.go with dice := SH.2 } xc hgo2.x rfl
    have hfin := shuf_fill hset x J.size start (gsN (Ne.symm hJb) hcd2) hJb hJs hst (by omega) SH.1 w hwl (by rw [hshl]; exact hxc) K (fun J' hh => hK' J' (by
      rw [hshl] at hh
      exact SO.trans (hup.trans (Upd.set _)) hh))
    rw [hshl] at hfin
    exact hfin
end Go.Proofs.Ytcdlipdeemlibaa.G
namespace Go.Proofs.Ytcdlipdeemlibaa.G
open Go
set_option linter.unusedSimpArgs false
set_option linter.unusedVariables false
set_option maxRecDepth 20000
set_option maxHeartbeats 2000000
variable {E : Me} {J : JH} {b : Nat} {m : Mc} {xc sh : IV}
theorem rdo_ok (h : SA E J b xc sh m) (x : Cd) (hx : x.wf) (size : Nat) (hr : x.right size m.bd.l.length E.moves.length = true) (hE : E.ok) (h6 : E.moves.length ≤ 32) (h0 : m.err = 0) (hok : m.r.ok) (hs : m.shows.length ≤ 1000) (hpc : m.pc ≤ 1000) (hop : x.op ≠ 0) : RP (ic BI F_ref09_state_do [.ptr b 0 0, x.e] J) fun v J' => SO E b J sh J' (followF E m x) := by
  rcases ops_of (right_ab hr).1 hop with ho | ho | ho | ho | ho | ho | ho | ho | ho | ho | ho
  · exact do_1 h x hx size hr hE h6 h0 hok hs hpc ho
  · exact do_25 h x hx size hr hE h6 h0 hok hs hpc ho
  · exact do_2 h x hx size hr hE h6 h0 hok hs hpc ho
  · exact do_3 h x hx size hr hE h6 h0 hok hs hpc ho
  · exact do_18 h x hx size hr hE h6 h0 hok hs hpc ho
  · exact do_19 h x hx size hr hE h6 h0 hok hs hpc ho
  · exact do_20 h x hx size hr hE h6 h0 hok hs hpc ho
  · exact do_21 h x hx size hr hE h6 h0 hok hs hpc ho
  · exact do_23 h x hx size hr hE h6 h0 hok hs hpc ho
  · rcases ho with ho | ho | ho | ho
    · exact do_4 h x hx size hr hE h6 h0 hok hs hpc ho
    · exact do_5 h x hx size hr hE h6 h0 hok hs hpc ho
    · exact do_22 h x hx size hr hE h6 h0 hok hs hpc ho
    · exact do_24 h x hx size hr hE h6 h0 hok hs hpc ho
  · exact do_c h x hx size hr hE h6 h0 hok hs hpc ho
def rsC (r : Rs) (c s : IV) : List IV := [c, .int .u64 r.dice, .int .u64 (r.touched.toNat : Int), s, nI r.used, nI r.err]
def s9Z : List IV := sc9 ⟨.sc (.slice none 0 0), [], 0, 0#32⟩ ⟨Bd.z, 0, 0#64, [], 0, 0, ⟨List.replicate 8 Cl.z, rfl⟩, 0⟩ (.sc (.slice none 0 0)) (.sc (.slice none 0 0))
theorem zc_s9 : List.map IV.sc (Value.slice none 0 0 :: Value.int .u64 0 :: Value.int .u64 0 :: Value.slice none 0 0 :: Value.int .i64 0 :: Value.int .i64 0 :: (reps 8 [Value.int .i32 0, Value.int .u32 0] ++ [Value.int .i64 0, Value.slice none 0 0, Value.int .u32 0, Value.int .u32 0])) = s9Z := rfl
attribute [go_sem ↓] zc_s9
theorem sz_fill (mv : IV) (t : Int) (all : BitVec 32) (h : icells mv = [mv]) (ho : ione mv = true) : ifill s9Z [(23, 1, mv), (24, 1, .int .u32 t), (25, 1, m32 all)] = some (sc9 ⟨mv, [], t, all⟩ ⟨Bd.z, 0, 0#64, [], 0, 0, ⟨List.replicate 8 Cl.z, rfl⟩, 0⟩ (.sc (.slice none 0 0)) (.sc (.slice none 0 0))) := by
  have e : s9Z = [.sc (.slice none 0 0), .int .u64 0, .int .u64 0, .sc (.slice none 0 0), .int .i64 0, .int .i64 0, .int .i32 0, .int .u32 0, .int .i32 0, .int .u32 0, .int .i32 0, .int .u32 0, .int .i32 0, .int .u32 0, .int .i32 0, .int .u32 0, .int .i32 0, .int .u32 0, .int .i32 0, .int .u32 0, .int .i32 0, .int .u32 0, .int .i64 0, .sc (.slice none 0 0), .int .u32 0, .int .u32 0] := rfl
  rw [e]
  simp only [ifill, ↓h, ↓ho, isplice, List.length_cons, List.length_nil, List.all_cons, List.all_nil, ho, Bool.and_self, icells, Nat.reduceAdd, Nat.reduceLeDiff, and_self, if_true, List.take_succ_cons, List.take_zero, List.drop_succ_cons, List.drop_zero, List.cons_append, List.nil_append, ione, one, and_true, true_and]
  rfl
theorem s9_one (E : Me) (m : Mc) {xc sh : IV} (a : ione E.mv = true) (b : ione xc = true) (c : ione sh = true) : (sc9 E m xc sh).all ione = true := by
  have hr : (rgc m.r).all ione = true := flat_one _
  simp only [sc9, List.all_append, List.all_cons, List.all_nil, a, b, c, hr]; rfl
def z9 : List IV := [.sc (.slice none 0 0), .sc (.int .u64 0), .sc (.int .u64 0), .sc (.slice none 0 0), .sc (.int .i64 0), .sc (.int .i64 0)]
def RsR (u : IV) (R : Rs) : Prop := ∃ c s, Ls 2 c (R.bd.l.map Cl.e) ∧ Ls 3 s (R.shows.map Sh.e) ∧ u = .agg (rsC R c s)
theorem rrun_end (bd : Bd) (xc0 : IV) (hx0 : Ls 2 xc0 (bd.l.map Cl.e)) (d : Int) (h : SA E J 1 xc sh m) (h0 : J[0]? = some (.cells 0 z9 false)) (hs : 0 ∉ blk sh) (K : Out IV → JH → Prop)
    (hK : ∀ vs J' u, frz J' DEP (itup vs) = some u → RsR u (endF bd d m) → K (.ret vs) J') : WP (dn BI l_ref09_Run_k3 [xc0, .int .u64 d, .ptr 0 0 0, .ptr 1 0 0] J) K := by
  have hb := h.at'
  have ho := h.g.one
  have hi := h.g.icells
  have hgr : ∀ X : IB, Grow (J.setIfInBounds 0 X) sh 3 (m.shows.map Sh.c).flatten := fun X => h.g.fr (Fr.set J X (S := [0]) (by simp)) fun c hc hm => by simp at hm; exact hs (hm ▸ hc)
  have frzR : ∀ (X : IB) (r : Rs) (c : IV), r.shows = m.shows → ipure c = true → Ls 2 c (r.bd.l.map Cl.e) → ∃ u, frz (J.setIfInBounds 0 X) DEP (.agg (rsC r c sh)) = some u ∧ RsR u r := fun X r c hsh hp hl => by
    obtain ⟨u, hu, hul⟩ := (hgr X).frzX (sh3 m.shows) (by decide) (sh_pure _) (sh_one _)
    have hmk : (m.shows.map Sh.c).map (mkE 3) = m.shows.map Sh.e := by rw [List.map_map]; rfl
    rw [hmk, ← hsh] at hul
    refine ⟨.agg (rsC r c u), frz_aggL (k := 11) ?_, c, u, hl, hul, rfl⟩
    have fp : ∀ {v : IV}, ipure v = true → frz (J.setIfInBounds 0 X) 11 v = some v := fun h => frz_pure _ _ h
    simp only [rsC]
    rw [List.mapM_cons, List.mapM_cons, List.mapM_cons, List.mapM_cons, List.mapM_cons, List.mapM_cons, fp hp, fp (v := .int .u64 r.dice) rfl, fp (v := .int .u64 (r.touched.toNat : Int)) rfl, hu 10, fp (v := nI r.used) rfl, fp (v := nI r.err) rfl]
    rfl
  unfold l_ref09_Run_k3
  by_cases he : m.err = 0
  · have he' : ((m.err : Int) != 0) = false := by simp [he]
    have hone : ([xc, .int .u64 m.dice, .int .u64 (m.touched.toNat : Int), sh, nI m.used, nI m.err] : List IV).all ione = true := by
      have := h.x.one
      simp only [List.all_cons, List.all_nil, ho, this]; rfl
    have hz : isplice z9 0 [xc, .int .u64 m.dice, .int .u64 (m.touched.toNat : Int), sh, nI m.used, nI m.err] = rsC ⟨m.bd, m.dice, m.touched, m.shows, m.used, m.err⟩ xc sh := rfl
    obtain ⟨u, hu, hr⟩ := frzR (.cells 0 (rsC ⟨m.bd, m.dice, m.touched, m.shows, m.used, m.err⟩ xc sh) false) ⟨m.bd, m.dice, m.touched, m.shows, m.used, m.err⟩ xc rfl h.x.pure h.x
    simp -implicitDefEqProofs only [go_sem, dnW_ite, reduceIte, Nat.reduceAdd, Nat.reduceLeDiff, Nat.reduceMul, Nat.reduceEqDiff, Int.reduceLT, Int.reduceLE, Int.reduceToNat, Nat.reduceSub, Nat.reduceLT, Int.reduceEq, BitVec.reduceOfInt, BitVec.reduceOfNat, Int.reduceGT, Int.reduceGE, Int.reduceBEq, Int.reduceBNe, Nat.reduceGT, Nat.reduceBEq, Nat.reduceBNe, Int.reduceAdd, Int.reduceSub, Int.reduceNeg, hb, he', h0, inb h0, ↓ho, ↓h.x.one, ↓hz, show z9.length = 6 from rfl, show ∀ r c s, (rsC r c s).length = 6 from fun _ _ _ => rfl, show ∀ r c s, (rsC r c s).take 6 = rsC r c s from fun _ _ _ => rfl]
    refine hK _ _ u ?_ (by rw [endF, if_neg (by simpa using he)]; exact hr)
    exact hu
  · have he' : ((m.err : Int) != 0) = true := by simp; omega
    have hz : isplice z9 0 [xc0, .int .u64 d, .sc (.int .u64 0), sh, nI m.used, nI m.err] = rsC ⟨bd, d, 0#64, m.shows, m.used, m.err⟩ xc0 sh := rfl
    obtain ⟨u, hu, hr⟩ := frzR (.cells 0 (rsC ⟨bd, d, 0#64, m.shows, m.used, m.err⟩ xc0 sh) false) ⟨bd, d, 0#64, m.shows, m.used, m.err⟩ xc0 rfl hx0.pure hx0
    simp -implicitDefEqProofs only [go_sem, dnW_ite, reduceIte, Nat.reduceAdd, Nat.reduceLeDiff, Nat.reduceMul, Nat.reduceEqDiff, Int.reduceLT, Int.reduceLE, Int.reduceToNat, Nat.reduceSub, Nat.reduceLT, Int.reduceEq, BitVec.reduceOfInt, BitVec.reduceOfNat, Int.reduceGT, Int.reduceGE, Int.reduceBEq, Int.reduceBNe, Nat.reduceGT, Nat.reduceBEq, Nat.reduceBNe, Int.reduceAdd, Int.reduceSub, Int.reduceNeg, hb, he', h0, inb h0, ↓ho, ↓hi, ↓hx0.one, ↓hx0.icells, ↓hz, show z9.length = 6 from rfl, show ∀ r c s, (rsC r c s).length = 6 from fun _ _ _ => rfl, show ∀ r c s, (rsC r c s).take 6 = rsC r c s from fun _ _ _ => rfl]
    refine hK _ _ u ?_ (by rw [endF, if_pos he]; exact hr)
    exact hu
theorem rrun_loop (hE : E.ok) (h6 : E.moves.length ≤ 32) (xl : IV) (l : List Cd) (hl : Ls 6 xl (l.map Cd.e)) (hw : ∀ c ∈ l, c.wf) (hl96 : l.length ≤ 96) (bd : Bd) (xc0 : IV) (hx0 : Ls 2 xc0 (bd.l.map Cl.e)) (d : Int) (hr : ∀ x ∈ l, x.right l.length bd.l.length E.moves.length = true) (K : Out IV → JH → Prop)
    (hK : ∀ vs J' u, frz J' DEP (itup vs) = some u → RsR u (endF bd d (loopF E l 400 (start E bd d))) → K (.ret vs) J') (J : JH) (h : SA E J 1 xc sh (start E bd d)) (h0 : J[0]? = some (.cells 0 z9 false)) (hs : 0 ∉ blk sh) (hbd : bd.ok) :
    WP (dn BI l_ref09_Run_k4 [xl, xc0, .int .u64 d, .ptr 0 0 0, .ptr 1 0 0] J) K := by
  unfold l_ref09_Run_k4
  simp -implicitDefEqProofs only [go_sem, dnW_ite, reduceIte, Nat.reduceAdd, Nat.reduceLeDiff, Nat.reduceMul, Nat.reduceEqDiff, Int.reduceLT, Int.reduceLE, Int.reduceToNat, Nat.reduceSub, Nat.reduceLT, Int.reduceEq, BitVec.reduceOfInt, BitVec.reduceOfNat, Int.reduceGT, Int.reduceGE, Int.reduceBEq, Int.reduceBNe, Nat.reduceGT, Nat.reduceBEq, Nat.reduceBNe, Int.reduceAdd, Int.reduceSub, Int.reduceNeg, dn_loop]
  refine WP_loop (by decide) (fun n vs J => ∃ m xc sh, vs = [xl, xc0, .int .u64 d, .ptr 0 0 0, .ptr 1 0 0] ∧ SA E J 1 xc sh m ∧ J[0]? = some (.cells 0 z9 false) ∧ 0 ∉ blk sh ∧ m.ok bd.l.length l.length ∧ m.shows.length ≤ m.used ∧ m.used + n = 400 ∧ loopF E l n m = loopF E l 400 (start E bd d)) ?_ 400 _ _ ⟨start E bd d, xc, sh, rfl, h, h0, hs, ⟨?_, hbd, rfl, Nat.zero_le _⟩, Nat.le_refl _, rfl, rfl⟩
  · rintro n vs J ⟨m, xc, sh, rfl, h, h0, hs, hok, hsu, hun, hf⟩ K1 g1 g2 g3
    have hb := h.at'
    have hin := inb hb
    have fin : loopF E l n m = m → WP (dn BI l_ref09_Run_k3 [xc0, .int .u64 d, .ptr 0 0 0, .ptr 1 0 0] J) K := fun e => by
      refine rrun_end bd xc0 hx0 d h h0 hs K ?_
      rw [← e, hf]; exact hK
    unfold l_ref09_Run_k2
    by_cases he : m.err = 0
    · have he' : ((m.err : Int) == 0) = true := by simp [he]
      by_cases hp : m.pc < l.length
      · unfold l_ref09_Run_k1
        cases n with
        | zero =>
          have hu4 : ((m.used : Int) == 400) = true := by simp; omega
          have t95 : isplice (sc9 E m xc sh) 5 [.int .i64 9] = sc9 E { m with err := 9 } xc sh := t9_5 E m xc sh 9
          simp -implicitDefEqProofs only [go_sem, dnW_ite, reduceIte, Nat.reduceAdd, Nat.reduceLeDiff, Nat.reduceMul, Nat.reduceEqDiff, Int.reduceLT, Int.reduceLE, Int.reduceToNat, Nat.reduceSub, Nat.reduceLT, Int.reduceEq, BitVec.reduceOfInt, BitVec.reduceOfNat, Int.reduceGT, Int.reduceGE, Int.reduceBEq, Int.reduceBNe, Nat.reduceGT, Nat.reduceBEq, Nat.reduceBNe, Int.reduceAdd, Int.reduceSub, Int.reduceNeg, hb, he', hl.lenF, List.length_map, show ((m.pc : Int) < (l.length : Int)) by omega, hu4, hin, ↓t95]
          refine g2 _ _ ?_
          have h' := h.set { m with err := 9 } xc h.x rfl
          rw [loopF, if_pos ⟨he, hp⟩] at hf
          refine rrun_end bd xc0 hx0 d h' (gsN (by decide) h0) hs K ?_
          rw [hf]; exact hK
        | succ k =>
          have hu4 : ((m.used : Int) == 400) = false := by rw [beq_eq_false_iff_ne]; omega
          have hat := fun J => hl.at (i := m.pc) (by simpa using hp) (J := J)
          simp only [List.getElem_map, Cd.e, Cd.cs] at hat
          have hx : l.getD m.pc ⟨0, 0, 0, 0, 0, 0⟩ = l[m.pc] := by simp [hp]
          have h' := h.set { m with used := m.used + 1 } xc h.x rfl
          have u' : Upd 1 J sh (J.setIfInBounds 1 (.cells 0 (sc9 E { m with used := m.used + 1 } xc sh) false)) sh := .set _
          have h0' : (J.setIfInBounds 1 (.cells 0 (sc9 E { m with used := m.used + 1 } xc sh) false))[0]? = some (.cells 0 z9 false) := gsN (by decide) h0
          rw [loopF, if_pos ⟨he, hp⟩, hx] at hf
          have hwu := wrapS (show m.used < 401 by omega) (by omega)
          by_cases h00 : l[m.pc].op = 0
          · have ho : ((l[m.pc].op : Int) == 0) = true := by simp [h00]
            simp -implicitDefEqProofs only [go_sem, dnW_ite, reduceIte, Nat.reduceAdd, Nat.reduceLeDiff, Nat.reduceMul, Nat.reduceEqDiff, Int.reduceLT, Int.reduceLE, Int.reduceToNat, Nat.reduceSub, Nat.reduceLT, Int.reduceEq, BitVec.reduceOfInt, BitVec.reduceOfNat, Int.reduceGT, Int.reduceGE, Int.reduceBEq, Int.reduceBNe, Nat.reduceGT, Nat.reduceBEq, Nat.reduceBNe, Int.reduceAdd, Int.reduceSub, Int.reduceNeg, hb, he', hl.lenF, List.length_map, show ((m.pc : Int) < (l.length : Int)) by omega, hu4, hwu, hat, ho, hin]
            refine g2 _ _ ?_
            rw [if_pos h00] at hf
            refine rrun_end bd xc0 hx0 d h' h0' hs K ?_
            rw [hf]; exact hK
          · have ho : ((l[m.pc].op : Int) == 0) = false := by rw [beq_eq_false_iff_ne]; omega
            rw [if_neg h00] at hf
            simp -implicitDefEqProofs only [go_sem, dnW_ite, reduceIte, Nat.reduceAdd, Nat.reduceLeDiff, Nat.reduceMul, Nat.reduceEqDiff, Int.reduceLT, Int.reduceLE, Int.reduceToNat, Nat.reduceSub, Nat.reduceLT, Int.reduceEq, BitVec.reduceOfInt, BitVec.reduceOfNat, Int.reduceGT, Int.reduceGE, Int.reduceBEq, Int.reduceBNe, Nat.reduceGT, Nat.reduceBEq, Nat.reduceBNe, Int.reduceAdd, Int.reduceSub, Int.reduceNeg, hb, he', hl.lenF, List.length_map, show ((m.pc : Int) < (l.length : Int)) by omega, hu4, hwu, hat, ho, hin]
            have hrx := hr _ (List.getElem_mem hp)
            have hwx := hw _ (List.getElem_mem hp)
            have hok' : ({ m with used := m.used + 1 } : Mc).ok bd.l.length l.length := ⟨hok.r, hok.bd, hok.len, hok.pc⟩
            refine WP_call (rdo_ok h' l[m.pc] hwx l.length (by show l[m.pc].right l.length m.bd.l.length _ = true; rw [hok.len]; exact hrx) hE h6 he hok.r (by show m.shows.length ≤ 1000; omega) (by show m.pc ≤ 1000; omega) h00) fun v J2 hv => ?_
            obtain ⟨xc2, sh2, k1, u1⟩ := hv
            have hnice := followF_nice hE hok' hp l[m.pc] hwx hrx
            simp -implicitDefEqProofs only [go_sem, dnW_ite, reduceIte, Nat.reduceAdd, Nat.reduceLeDiff, Nat.reduceMul, Nat.reduceEqDiff, Int.reduceLT, Int.reduceLE, Int.reduceToNat, Nat.reduceSub, Nat.reduceLT, Int.reduceEq, BitVec.reduceOfInt, BitVec.reduceOfNat, Int.reduceGT, Int.reduceGE, Int.reduceBEq, Int.reduceBNe, Nat.reduceGT, Nat.reduceBEq, Nat.reduceBNe, Int.reduceAdd, Int.reduceSub, Int.reduceNeg]
            refine g1 _ k _ (by omega) ⟨_, xc2, sh2, rfl, k1, u1.keep h0' (by decide) hs, u1.out (lt_get h0') hs, hnice.ok, ?_, ?_, hf⟩
            · have a := hnice.shows; have b := hnice.used; rw [b]; show _ ≤ m.used + 1; have : ({ m with used := m.used + 1 } : Mc).shows.length = m.shows.length := rfl; omega
            · rw [hnice.used]; show m.used + 1 + k = 400; omega
      · simp -implicitDefEqProofs only [go_sem, dnW_ite, reduceIte, Nat.reduceAdd, Nat.reduceLeDiff, Nat.reduceMul, Nat.reduceEqDiff, Int.reduceLT, Int.reduceLE, Int.reduceToNat, Nat.reduceSub, Nat.reduceLT, Int.reduceEq, BitVec.reduceOfInt, BitVec.reduceOfNat, Int.reduceGT, Int.reduceGE, Int.reduceBEq, Int.reduceBNe, Nat.reduceGT, Nat.reduceBEq, Nat.reduceBNe, Int.reduceAdd, Int.reduceSub, Int.reduceNeg, hb, he', hl.lenF, List.length_map, show ¬ ((m.pc : Int) < (l.length : Int)) by omega]
        refine g2 _ _ (fin ?_)
        cases n <;> simp [loopF, hp]
    · have he' : ((m.err : Int) == 0) = false := by rw [beq_eq_false_iff_ne]; omega
      simp -implicitDefEqProofs only [go_sem, dnW_ite, reduceIte, Nat.reduceAdd, Nat.reduceLeDiff, Nat.reduceMul, Nat.reduceEqDiff, Int.reduceLT, Int.reduceLE, Int.reduceToNat, Nat.reduceSub, Nat.reduceLT, Int.reduceEq, BitVec.reduceOfInt, BitVec.reduceOfNat, Int.reduceGT, Int.reduceGE, Int.reduceBEq, Int.reduceBNe, Nat.reduceGT, Nat.reduceBEq, Nat.reduceBNe, Int.reduceAdd, Int.reduceSub, Int.reduceNeg, hb, he']
      refine g2 _ _ (fin ?_)
      cases n <;> simp [loopF, he]
  · intro i hi
    have : ((start E bd d).r.at i).v = 0 := by
      show ((regs0 E.all).at i).v = 0
      rw [rg_at _ hi]; simp only [regs0, List.getElem_replicate]
    rw [this]; exact I32_0
theorem rRun_ok (xl xc : IV) (l : List Cd) (bd : Bd) (hl : Ls 6 xl (l.map Cd.e)) (hx : Ls 2 xc (bd.l.map Cl.e)) (hbd : bd.ok) (d : Int) (hE : E.ok) (hw : ∀ c ∈ l, c.wf) (h6 : E.moves.length ≤ 32) :
    ∃ u, pc BI F_ref09_Run [xl, xc, .int .u64 d, E.mv, .int .u32 E.tick, m32 E.all] = some u ∧ RsR u (runF E l bd d) := by
  refine pcW fn_ref09_Run rfl fun K hK => ?_
  have hC := bd.h
  obtain ⟨k, hk, hkr⟩ := rCheck_ok xl l hl hw bd.l.length E.moves.length (by omega) (by omega)
  have hml := fun J => hE.mv.lenF (J := J)
  simp only [List.length_map] at hml
  unfold l_ref09_Run
  cases hrr : rightL l bd.l.length E.moves.length with
  | false =>
    have hge := hkr.2 hrr
    simp -implicitDefEqProofs only [go_sem, dnW_ite, reduceIte, Nat.reduceAdd, Nat.reduceLeDiff, Nat.reduceMul, Nat.reduceEqDiff, Int.reduceLT, Int.reduceLE, Int.reduceToNat, Nat.reduceSub, Nat.reduceLT, Int.reduceEq, BitVec.reduceOfInt, BitVec.reduceOfNat, Int.reduceGT, Int.reduceGE, Int.reduceBEq, Int.reduceBNe, Nat.reduceGT, Nat.reduceBEq, Nat.reduceBNe, Int.reduceAdd, Int.reduceSub, Int.reduceNeg, hx.lenF, List.length_map, hml, dcp hk (by simp [ipureL, ipure, hl.pure]), hge, ↓hx.one, ↓hx.icells]
    refine hK _ _ (.agg (rsC ⟨bd, d, 0#64, [], 0, 2⟩ xc (.sc (.slice none 0 0)))) (frzP (by simp [itup, ipure, ipureL, rsC, hx.pure])) ?_
    rw [runF, if_pos hrr]
    exact ⟨xc, _, hx, .nil, rfl⟩
  | true =>
    have hfill := sz_fill E.mv E.tick E.all hE.mv.icells hE.mv.one
    have hmo := hE.mv.one
    have hxo := hx.one
    have hz1 := fun m => s9_one ⟨E.mv, [], E.tick, E.all⟩ m (xc := .sc (.slice none 0 0)) (sh := .sc (.slice none 0 0)) hmo rfl rfl
    have hge : ¬ k ≥ 0 := fun q => by have := hkr.1 q; rw [hrr] at this; cases this
    have hall : l.length ≤ 96 ∧ ∀ x ∈ l, x.right l.length bd.l.length E.moves.length = true := by simpa [rightL] using hrr
    simp -implicitDefEqProofs only [go_sem, dnW_ite, reduceIte, Nat.reduceAdd, Nat.reduceLeDiff, Nat.reduceMul, Nat.reduceEqDiff, Int.reduceLT, Int.reduceLE, Int.reduceToNat, Nat.reduceSub, Nat.reduceLT, Int.reduceEq, BitVec.reduceOfInt, BitVec.reduceOfNat, Int.reduceGT, Int.reduceGE, Int.reduceBEq, Int.reduceBNe, Nat.reduceGT, Nat.reduceBEq, Nat.reduceBNe, Int.reduceAdd, Int.reduceSub, Int.reduceNeg, hx.lenF, List.length_map, hml, dcp hk (by simp [ipureL, ipure, hl.pure]), hge, ↓hE.mv.icells, ↓hE.mv.one, hfill, hz1, ↓hx.icells, ↓hx.one, dn_loop]
    refine WP_range (by decide) 8 (fun i vs J => vs = [xl, xc, .int .u64 d, m32 E.all, .ptr 0 0 0, .ptr 1 0 0, nI i] ∧ J = #[IB.cells 0 z9 false, IB.cells 0 (sc9 E ⟨bd, d, 0#64, [], 0, 0, regsN E.all i, 0⟩ xc (.sc (.slice none 0 0))) false]) ?_ ⟨rfl, rfl⟩
    rintro i vs J ⟨rfl, rfl⟩ hi K1 g1 g2 g3
    unfold l_ref09_Run_k0
    by_cases h : i < 8
    · simp -implicitDefEqProofs only [go_sem, dnW_ite, reduceIte, Nat.reduceAdd, Nat.reduceLeDiff, Nat.reduceMul, Nat.reduceEqDiff, Int.reduceLT, Int.reduceLE, Int.reduceToNat, Nat.reduceSub, Nat.reduceLT, Int.reduceEq, BitVec.reduceOfInt, BitVec.reduceOfNat, Int.reduceGT, Int.reduceGE, Int.reduceBEq, Int.reduceBNe, Nat.reduceGT, Nat.reduceBEq, Nat.reduceBNe, Int.reduceAdd, Int.reduceSub, Int.reduceNeg, show ((i : Int) < 8) by omega, r8 h, t9_rs E ⟨bd, d, 0#64, [], 0, 0, regsN E.all i, 0⟩ xc (.sc (.slice none 0 0)) h, wrapS h (by omega)]
      refine g1 h _ _ ⟨rfl, ?_⟩
      rw [← regsN_set E.all h]
    · simp -implicitDefEqProofs only [go_sem, dnW_ite, reduceIte, Nat.reduceAdd, Nat.reduceLeDiff, Nat.reduceMul, Nat.reduceEqDiff, Int.reduceLT, Int.reduceLE, Int.reduceToNat, Nat.reduceSub, Nat.reduceLT, Int.reduceEq, BitVec.reduceOfInt, BitVec.reduceOfNat, Int.reduceGT, Int.reduceGE, Int.reduceBEq, Int.reduceBNe, Nat.reduceGT, Nat.reduceBEq, Nat.reduceBNe, Int.reduceAdd, Int.reduceSub, Int.reduceNeg, show ¬ ((i : Int) < 8) by omega]
      obtain rfl : i = 8 := by omega
      refine g2 _ _ ?_
      have hsa : SA E (#[IB.cells 0 z9 false, IB.cells 0 (sc9 E ⟨bd, d, 0#64, [], 0, 0, regsN E.all 8, 0⟩ xc (.sc (.slice none 0 0))) false] : JH) 1 xc (.sc (.slice none 0 0)) (start E bd d) := ⟨rfl, hx, by simp [blk, blkOf], .nil⟩
      refine rrun_loop hE h6 xl l hl hw hall.1 bd xc hx d hall.2 K ?_ _ hsa rfl (by simp [blk, blkOf]) hbd
      intro vs J' u h1 h2
      refine hK vs J' u h1 ?_
      rw [runF, if_neg (by rw [hrr]; decide)]
      unfold endF at h2
      by_cases he : (loopF E l 400 (start E bd d)).err = 0
      · rw [if_neg (by simpa using he)] at h2 ⊢
        rw [he] at h2; exact h2
      · rw [if_pos he] at h2 ⊢; exact h2
end Go.Proofs.Ytcdlipdeemlibaa.G
namespace Go.Proofs.Ytcdlipdeemlibaa.G
open Go
set_option linter.unusedSimpArgs false
set_option linter.unusedVariables false
set_option maxRecDepth 20000
set_option maxHeartbeats 2000000
theorem pow_next {i : Nat} (h : i < 32) : IntKind.u32.wrap (IntKind.u32.wrap (2 * ((2 ^ i - 1 : Nat) : Int)) + 1) = ((2 ^ (i + 1) - 1 : Nat) : Int) := by
  have h1 : 2 ^ i ≤ 2 ^ 31 := Nat.pow_le_pow_right (by omega) (by omega)
  have h2 : 1 ≤ 2 ^ i := Nat.one_le_two_pow
  have h3 : 2 ^ (i + 1) = 2 * 2 ^ i := by rw [Nat.pow_succ, Nat.mul_comm]
  rw [wrap_u32 (x := 2 * ((2 ^ i - 1 : Nat) : Int)) (by omega) (by omega), wrap_u32 (by omega) (by omega)]
  omega
theorem rAll_ok (n : Int) : pc BI F_ref10_All [.int .i64 n] = some (m32 (allM n)) := by
  refine pcE fn_ref10_All rfl fun K hK => ?_
  unfold l_ref10_All
  simp -implicitDefEqProofs only [go_sem, dnW_ite, reduceIte, Nat.reduceAdd, Nat.reduceLeDiff, Nat.reduceMul, Nat.reduceEqDiff, Int.reduceLT, Int.reduceLE, Int.reduceToNat, Nat.reduceSub, Nat.reduceLT, Int.reduceEq, BitVec.reduceOfInt, BitVec.reduceOfNat, Int.reduceGT, Int.reduceGE, Int.reduceBEq, Int.reduceBNe, Nat.reduceGT, Nat.reduceBEq, Nat.reduceBNe, Int.reduceAdd, Int.reduceSub, Int.reduceNeg, dn_loop]
  refine WP_range (by decide) (min (max n 0) 32).toNat (fun i vs J => vs = [.int .i64 n, .int .u32 ((2 ^ i - 1 : Nat) : Int), nI i]) ?_ rfl
  rintro i vs J rfl hi K1 g1 g2 g3
  have fin : i = (min (max n 0) 32).toNat → WP (dn BI l_ref10_All_k2 [.int .u32 ((2 ^ i - 1 : Nat) : Int)] J) K := fun e => by
    unfold l_ref10_All_k2
    simp -implicitDefEqProofs only [go_sem, dnW_ite, reduceIte, Nat.reduceAdd, Nat.reduceLeDiff, Nat.reduceMul, Nat.reduceEqDiff, Int.reduceLT, Int.reduceLE, Int.reduceToNat, Nat.reduceSub, Nat.reduceLT, Int.reduceEq, BitVec.reduceOfInt, BitVec.reduceOfNat, Int.reduceGT, Int.reduceGE, Int.reduceBEq, Int.reduceBNe, Nat.reduceGT, Nat.reduceBEq, Nat.reduceBNe, Int.reduceAdd, Int.reduceSub, Int.reduceNeg]
    refine hK _ _ (frzE rfl ?_)
    have h1 : 2 ^ i ≤ 2 ^ 32 := Nat.pow_le_pow_right (by omega) (by omega)
    have h2 : 1 ≤ 2 ^ i := Nat.one_le_two_pow
    simp only [itup, allM, ← e, m32, BitVec.toNat_ofNat]
    rw [Nat.mod_eq_of_lt (by omega)]
  unfold l_ref10_All_k1 l_ref10_All_k0
  by_cases h1 : (i : Int) < n
  · by_cases h2 : i < 32
    · have hw1 := wrapS h2 (show 32 ≤ 9223372036854775807 by omega)
      simp -implicitDefEqProofs only [go_sem, dnW_ite, reduceIte, Nat.reduceAdd, Nat.reduceLeDiff, Nat.reduceMul, Nat.reduceEqDiff, Int.reduceLT, Int.reduceLE, Int.reduceToNat, Nat.reduceSub, Nat.reduceLT, Int.reduceEq, BitVec.reduceOfInt, BitVec.reduceOfNat, Int.reduceGT, Int.reduceGE, Int.reduceBEq, Int.reduceBNe, Nat.reduceGT, Nat.reduceBEq, Nat.reduceBNe, Int.reduceAdd, Int.reduceSub, Int.reduceNeg, h1, show ((i : Int) < 32) by omega, pow_next h2, hw1]
      exact g1 (by omega) _ _ rfl
    · simp -implicitDefEqProofs only [go_sem, dnW_ite, reduceIte, Nat.reduceAdd, Nat.reduceLeDiff, Nat.reduceMul, Nat.reduceEqDiff, Int.reduceLT, Int.reduceLE, Int.reduceToNat, Nat.reduceSub, Nat.reduceLT, Int.reduceEq, BitVec.reduceOfInt, BitVec.reduceOfNat, Int.reduceGT, Int.reduceGE, Int.reduceBEq, Int.reduceBNe, Nat.reduceGT, Nat.reduceBEq, Nat.reduceBNe, Int.reduceAdd, Int.reduceSub, Int.reduceNeg, h1, show ¬ ((i : Int) < 32) by omega]
      exact g2 _ _ (fin (by omega))
  · simp -implicitDefEqProofs only [go_sem, dnW_ite, reduceIte, Nat.reduceAdd, Nat.reduceLeDiff, Nat.reduceMul, Nat.reduceEqDiff, Int.reduceLT, Int.reduceLE, Int.reduceToNat, Nat.reduceSub, Nat.reduceLT, Int.reduceEq, BitVec.reduceOfInt, BitVec.reduceOfNat, Int.reduceGT, Int.reduceGE, Int.reduceBEq, Int.reduceBNe, Nat.reduceGT, Nat.reduceBEq, Nat.reduceBNe, Int.reduceAdd, Int.reduceSub, Int.reduceNeg, h1]
    exact g2 _ _ (fin (by omega))
theorem within_gt (a b : BitVec 32) : (((a &&& ~~~b).toNat : Int) > 0) = (within a b = false) := by
  rw [mgt0]; unfold within
  simp
theorem gdRight_k2 (g : Gm) (x y : IV) (h : GR g x y) (hw : ∀ c ∈ g.code, c.wf) (h48 : g.cells.length ≤ 48) (hp : 0 ≤ g.players ∧ g.players ≤ 6) (J : JH) (h0 : J[0]? = some (.cells 0 (gmc g x y) false)) (K : Out IV → JH → Prop)
    (hK : ∀ J', K (.ret [.bool (g.cells.all (fun c => within c.s (allM g.obs)) && rightL g.code g.cells.length g.players.toNat)]) J') :
    WP (dn BI l_ref10_Right_k2 [.ptr 0 0 0] J) K := by
  unfold l_ref10_Right_k2
  simp -implicitDefEqProofs only [go_sem, dnW_ite, reduceIte, Nat.reduceAdd, Nat.reduceLeDiff, Nat.reduceMul, Nat.reduceEqDiff, Int.reduceLT, Int.reduceLE, Int.reduceToNat, Nat.reduceSub, Nat.reduceLT, Int.reduceEq, BitVec.reduceOfInt, BitVec.reduceOfNat, Int.reduceGT, Int.reduceGE, Int.reduceBEq, Int.reduceBNe, Nat.reduceGT, Nat.reduceBEq, Nat.reduceBNe, Int.reduceAdd, Int.reduceSub, Int.reduceNeg, h0, h.x.lenF, List.length_map, dn_loop]
  refine WP_range (by decide) g.cells.length (fun i vs J' => vs = [.ptr 0 0 0, x, nI g.cells.length, nI i] ∧ Fr J J' [] ∧ ∀ c ∈ g.cells.take i, within c.s (allM g.obs) = true) ?_ ⟨rfl, .refl _ _, by simp⟩
  rintro i vs J1 ⟨rfl, hf, hn⟩ hi K1 g1 g2 g3
  have h01 : J1[0]? = some (.cells 0 (gmc g x y) false) := by rw [hf.2 0 (lt_get h0) (by simp)]; exact h0
  unfold l_ref10_Right_k0
  by_cases hi2 : i < g.cells.length
  · have hat := fun J => h.x.at (i := i) (by simpa using hi2) (J := J)
    simp only [List.getElem_map, Cl.e, Cl.c] at hat
    have hl0 := lt_get h01
    have hwg := within_gt g.cells[i].s (allM g.obs)
    have hw1 := wrapS hi2 (show g.cells.length ≤ 9223372036854775807 by omega)
    cases hc : within g.cells[i].s (allM g.obs) with
    | false =>
      rw [hc] at hwg
      simp -implicitDefEqProofs only [go_sem, dnW_ite, reduceIte, Nat.reduceAdd, Nat.reduceLeDiff, Nat.reduceMul, Nat.reduceEqDiff, Int.reduceLT, Int.reduceLE, Int.reduceToNat, Nat.reduceSub, Nat.reduceLT, Int.reduceEq, BitVec.reduceOfInt, BitVec.reduceOfNat, Int.reduceGT, Int.reduceGE, Int.reduceBEq, Int.reduceBNe, Nat.reduceGT, Nat.reduceBEq, Nat.reduceBNe, Int.reduceAdd, Int.reduceSub, Int.reduceNeg, show ((i : Int) < (g.cells.length : Int)) by omega, hat, h01, inb h01, dcp (rAll_ok g.obs) rfl, bandNot32, hwg]
      refine g3 _ _ ?_
      have e : g.cells.all (fun c => within c.s (allM g.obs)) = false := by
        rw [List.all_eq_false]
        exact ⟨_, List.getElem_mem hi2, by rw [hc]; decide⟩
      have := fun J' => hK J'
      rw [e] at this
      exact this _
    | true =>
      rw [hc] at hwg
      simp -implicitDefEqProofs only [go_sem, dnW_ite, reduceIte, Nat.reduceAdd, Nat.reduceLeDiff, Nat.reduceMul, Nat.reduceEqDiff, Int.reduceLT, Int.reduceLE, Int.reduceToNat, Nat.reduceSub, Nat.reduceLT, Int.reduceEq, BitVec.reduceOfInt, BitVec.reduceOfNat, Int.reduceGT, Int.reduceGE, Int.reduceBEq, Int.reduceBNe, Nat.reduceGT, Nat.reduceBEq, Nat.reduceBNe, Int.reduceAdd, Int.reduceSub, Int.reduceNeg, show ((i : Int) < (g.cells.length : Int)) by omega, hat, h01, inb h01, dcp (rAll_ok g.obs) rfl, bandNot32, hwg, hw1]
      refine g1 hi2 _ _ ⟨rfl, ?_, ?_⟩
      · (have hsz_ := hf.1; repeat (first | with_reducible exact hf | with_reducible apply Fr.psh | ((with_reducible apply Fr.stn); rotate_left; first | omega | (simp only [Array.size_push, Array.size_setIfInBounds] <;> omega)) | ((with_reducible apply Fr.sts); rotate_left; focus (simp only [List.mem_cons, eq_self, true_or, or_true]; done))))
      rw [List.take_succ_eq_append_getElem hi2]
      intro c hcm
      rcases List.mem_append.1 hcm with hcm | hcm
      · exact hn c hcm
      · simp at hcm; subst hcm; exact hc
  · simp -implicitDefEqProofs only [go_sem, dnW_ite, reduceIte, Nat.reduceAdd, Nat.reduceLeDiff, Nat.reduceMul, Nat.reduceEqDiff, Int.reduceLT, Int.reduceLE, Int.reduceToNat, Nat.reduceSub, Nat.reduceLT, Int.reduceEq, BitVec.reduceOfInt, BitVec.reduceOfNat, Int.reduceGT, Int.reduceGE, Int.reduceBEq, Int.reduceBNe, Nat.reduceGT, Nat.reduceBEq, Nat.reduceBNe, Int.reduceAdd, Int.reduceSub, Int.reduceNeg, show ¬ ((i : Int) < (g.cells.length : Int)) by omega]
    refine g2 _ _ ?_
    unfold l_ref10_Right_k1
    rw [List.take_of_length_le (by omega)] at hn
    have e : g.cells.all (fun c => within c.s (allM g.obs)) = true := List.all_eq_true.2 hn
    obtain ⟨p, hp2⟩ : ∃ p : Nat, g.players = p := ⟨g.players.toNat, by omega⟩
    obtain ⟨k, hk, hkr⟩ := rCheck_ok y g.code h.y hw g.cells.length p (by omega) (by omega)
    rw [e, hp2, Bool.true_and, Int.toNat_natCast] at hK
    cases hr : rightL g.code g.cells.length p with
    | false =>
      rw [hr] at hK
      simp -implicitDefEqProofs only [go_sem, dnW_ite, reduceIte, Nat.reduceAdd, Nat.reduceLeDiff, Nat.reduceMul, Nat.reduceEqDiff, Int.reduceLT, Int.reduceLE, Int.reduceToNat, Nat.reduceSub, Nat.reduceLT, Int.reduceEq, BitVec.reduceOfInt, BitVec.reduceOfNat, Int.reduceGT, Int.reduceGE, Int.reduceBEq, Int.reduceBNe, Nat.reduceGT, Nat.reduceBEq, Nat.reduceBNe, Int.reduceAdd, Int.reduceSub, Int.reduceNeg, h01, hp2, h.x.lenF, List.length_map, dcp hk (by simp [ipureL, ipure, h.y.pure]), show ¬ k < 0 by have := hkr.2 hr; omega]
      exact hK _
    | true =>
      rw [hr] at hK
      simp -implicitDefEqProofs only [go_sem, dnW_ite, reduceIte, Nat.reduceAdd, Nat.reduceLeDiff, Nat.reduceMul, Nat.reduceEqDiff, Int.reduceLT, Int.reduceLE, Int.reduceToNat, Nat.reduceSub, Nat.reduceLT, Int.reduceEq, BitVec.reduceOfInt, BitVec.reduceOfNat, Int.reduceGT, Int.reduceGE, Int.reduceBEq, Int.reduceBNe, Nat.reduceGT, Nat.reduceBEq, Nat.reduceBNe, Int.reduceAdd, Int.reduceSub, Int.reduceNeg, h01, hp2, h.x.lenF, List.length_map, dcp hk (by simp [ipureL, ipure, h.y.pure]), show k < 0 by have := fun q => hkr.1 q; rw [hr] at this; simp at this; omega]
      exact hK _
theorem rRight10_ok (g : Gm) (x y : IV) (h : GR g x y) (hw : ∀ c ∈ g.code, c.wf) (hb : g.cells.length ≤ 9223372036854775807) : pc BI F_ref10_Right [.agg (gmc g x y)] = some (.bool g.right) := by
  refine pcE fn_ref10_Right rfl fun K hK => ?_
  unfold l_ref10_Right
  have no : g.right = false → K (.ret [.bool false]) #[.cells 0 (gmc g x y) false] := fun e => hK _ _ (frzE rfl (by rw [e]; rfl))
  by_cases h1 : g.obs < 1
  · simp -implicitDefEqProofs only [go_sem, dnW_ite, reduceIte, Nat.reduceAdd, Nat.reduceLeDiff, Nat.reduceMul, Nat.reduceEqDiff, Int.reduceLT, Int.reduceLE, Int.reduceToNat, Nat.reduceSub, Nat.reduceLT, Int.reduceEq, BitVec.reduceOfInt, BitVec.reduceOfNat, Int.reduceGT, Int.reduceGE, Int.reduceBEq, Int.reduceBNe, Nat.reduceGT, Nat.reduceBEq, Nat.reduceBNe, Int.reduceAdd, Int.reduceSub, Int.reduceNeg, h.one, h1]
    exact no (by simp [Gm.right]; omega)
  by_cases h2 : g.obs > 32
  · simp -implicitDefEqProofs only [go_sem, dnW_ite, reduceIte, Nat.reduceAdd, Nat.reduceLeDiff, Nat.reduceMul, Nat.reduceEqDiff, Int.reduceLT, Int.reduceLE, Int.reduceToNat, Nat.reduceSub, Nat.reduceLT, Int.reduceEq, BitVec.reduceOfInt, BitVec.reduceOfNat, Int.reduceGT, Int.reduceGE, Int.reduceBEq, Int.reduceBNe, Nat.reduceGT, Nat.reduceBEq, Nat.reduceBNe, Int.reduceAdd, Int.reduceSub, Int.reduceNeg, h.one, h1, h2]
    exact no (by simp [Gm.right]; omega)
  by_cases h3 : g.players < 1
  · simp -implicitDefEqProofs only [go_sem, dnW_ite, reduceIte, Nat.reduceAdd, Nat.reduceLeDiff, Nat.reduceMul, Nat.reduceEqDiff, Int.reduceLT, Int.reduceLE, Int.reduceToNat, Nat.reduceSub, Nat.reduceLT, Int.reduceEq, BitVec.reduceOfInt, BitVec.reduceOfNat, Int.reduceGT, Int.reduceGE, Int.reduceBEq, Int.reduceBNe, Nat.reduceGT, Nat.reduceBEq, Nat.reduceBNe, Int.reduceAdd, Int.reduceSub, Int.reduceNeg, h.one, h1, h2, h3]
    exact no (by simp [Gm.right]; omega)
  by_cases h4 : g.players > 6
  · simp -implicitDefEqProofs only [go_sem, dnW_ite, reduceIte, Nat.reduceAdd, Nat.reduceLeDiff, Nat.reduceMul, Nat.reduceEqDiff, Int.reduceLT, Int.reduceLE, Int.reduceToNat, Nat.reduceSub, Nat.reduceLT, Int.reduceEq, BitVec.reduceOfInt, BitVec.reduceOfNat, Int.reduceGT, Int.reduceGE, Int.reduceBEq, Int.reduceBNe, Nat.reduceGT, Nat.reduceBEq, Nat.reduceBNe, Int.reduceAdd, Int.reduceSub, Int.reduceNeg, h.one, h1, h2, h3, h4]
    exact no (by simp [Gm.right]; omega)
  by_cases h4' : g.players > g.obs
  · simp -implicitDefEqProofs only [go_sem, dnW_ite, reduceIte, Nat.reduceAdd, Nat.reduceLeDiff, Nat.reduceMul, Nat.reduceEqDiff, Int.reduceLT, Int.reduceLE, Int.reduceToNat, Nat.reduceSub, Nat.reduceLT, Int.reduceEq, BitVec.reduceOfInt, BitVec.reduceOfNat, Int.reduceGT, Int.reduceGE, Int.reduceBEq, Int.reduceBNe, Nat.reduceGT, Nat.reduceBEq, Nat.reduceBNe, Int.reduceAdd, Int.reduceSub, Int.reduceNeg, h.one, h1, h2, h3, h4, h4']
    exact no (by simp [Gm.right]; omega)
  by_cases h5 : (g.moves.toNat : Int) ≤ (g.dflt.toNat : Int)
  · simp -implicitDefEqProofs only [go_sem, dnW_ite, reduceIte, Nat.reduceAdd, Nat.reduceLeDiff, Nat.reduceMul, Nat.reduceEqDiff, Int.reduceLT, Int.reduceLE, Int.reduceToNat, Nat.reduceSub, Nat.reduceLT, Int.reduceEq, BitVec.reduceOfInt, BitVec.reduceOfNat, Int.reduceGT, Int.reduceGE, Int.reduceBEq, Int.reduceBNe, Nat.reduceGT, Nat.reduceBEq, Nat.reduceBNe, Int.reduceAdd, Int.reduceSub, Int.reduceNeg, h.one, h1, h2, h3, h4, h4', h5]
    exact no (by simp [Gm.right]; omega)
  by_cases h6 : (g.cells.length : Int) > 48
  · simp -implicitDefEqProofs only [go_sem, dnW_ite, reduceIte, Nat.reduceAdd, Nat.reduceLeDiff, Nat.reduceMul, Nat.reduceEqDiff, Int.reduceLT, Int.reduceLE, Int.reduceToNat, Nat.reduceSub, Nat.reduceLT, Int.reduceEq, BitVec.reduceOfInt, BitVec.reduceOfNat, Int.reduceGT, Int.reduceGE, Int.reduceBEq, Int.reduceBNe, Nat.reduceGT, Nat.reduceBEq, Nat.reduceBNe, Int.reduceAdd, Int.reduceSub, Int.reduceNeg, h.one, h1, h2, h3, h4, h4', h5, h.x.lenF, List.length_map, h6]
    exact no (by simp [Gm.right]; omega)
  simp -implicitDefEqProofs only [go_sem, dnW_ite, reduceIte, Nat.reduceAdd, Nat.reduceLeDiff, Nat.reduceMul, Nat.reduceEqDiff, Int.reduceLT, Int.reduceLE, Int.reduceToNat, Nat.reduceSub, Nat.reduceLT, Int.reduceEq, BitVec.reduceOfInt, BitVec.reduceOfNat, Int.reduceGT, Int.reduceGE, Int.reduceBEq, Int.reduceBNe, Nat.reduceGT, Nat.reduceBEq, Nat.reduceBNe, Int.reduceAdd, Int.reduceSub, Int.reduceNeg, h.one, h1, h2, h3, h4, h4', h5, h.x.lenF, List.length_map, h6]
  refine gdRight_k2 g x y h hw (by omega) (by omega) _ rfl K fun J' => hK _ _ (frzE rfl ?_)
  have e1 : decide (1 ≤ g.obs ∧ g.obs ≤ 32) = true := by simp; omega
  have e2 : decide (1 ≤ g.players ∧ g.players ≤ 6 ∧ g.players ≤ g.obs) = true := by simp; omega
  have e3 : decide (g.dflt.toNat < g.moves.toNat) = true := by simp; omega
  have e4 : decide (g.cells.length ≤ 48) = true := by simp; omega
  simp [Gm.right, e1, e2, e3, e4, itup]
end Go.Proofs.Ytcdlipdeemlibaa.G
namespace Go.Proofs.Ytcdlipdeemlibaa.G
open Go
set_option linter.unusedSimpArgs false
set_option linter.unusedVariables false
set_option maxRecDepth 20000
set_option maxHeartbeats 2000000
theorem rMove_ok (g : Gm) (x y : IV) (h : GR g x y) (mv : IV) (ms : List (BitVec 32)) (hm : Ls 1 mv (ms.map m32)) (i : Nat) : pc BI F_ref10_Move [.agg (gmc g x y), mv, nI i] = some (.int .i32 (IntKind.i32.wrap ((g.mv ms i).toNat : Int))) := by
  refine pcE fn_ref10_Move rfl fun K hK => ?_
  have fin : g.mv ms i = g.dflt → WP (dn BI l_ref10_Move_k0 [.ptr 0 0 0] #[.cells 0 (gmc g x y) false]) K := fun e => by
    unfold l_ref10_Move_k0
    simp -implicitDefEqProofs only [go_sem, dnW_ite, reduceIte, Nat.reduceAdd, Nat.reduceLeDiff, Nat.reduceMul, Nat.reduceEqDiff, Int.reduceLT, Int.reduceLE, Int.reduceToNat, Nat.reduceSub, Nat.reduceLT, Int.reduceEq, BitVec.reduceOfInt, BitVec.reduceOfNat, Int.reduceGT, Int.reduceGE, Int.reduceBEq, Int.reduceBNe, Nat.reduceGT, Nat.reduceBEq, Nat.reduceBNe, Int.reduceAdd, Int.reduceSub, Int.reduceNeg]
    exact hK _ _ (frzE rfl (by rw [e]; rfl))
  unfold l_ref10_Move
  by_cases hv : i < ms.length
  · have hat := fun J => hm.at (i := i) (by simpa using hv) (J := J)
    simp only [List.getElem_map] at hat
    by_cases hc : (ms[i].toNat : Int) < (g.moves.toNat : Int)
    · have e : g.mv ms i = ms[i] := by simp [Gm.mv, hv, Gm.legal]; omega
      simp -implicitDefEqProofs only [go_sem, dnW_ite, reduceIte, Nat.reduceAdd, Nat.reduceLeDiff, Nat.reduceMul, Nat.reduceEqDiff, Int.reduceLT, Int.reduceLE, Int.reduceToNat, Nat.reduceSub, Nat.reduceLT, Int.reduceEq, BitVec.reduceOfInt, BitVec.reduceOfNat, Int.reduceGT, Int.reduceGE, Int.reduceBEq, Int.reduceBNe, Nat.reduceGT, Nat.reduceBEq, Nat.reduceBNe, Int.reduceAdd, Int.reduceSub, Int.reduceNeg, h.one, hm.lenF, List.length_map, show ((i : Int) < (ms.length : Int)) by omega, hat, hc]
      exact hK _ _ (frzE rfl (by rw [e]; rfl))
    · have e : g.mv ms i = g.dflt := by simp [Gm.mv, hv, Gm.legal]; omega
      simp -implicitDefEqProofs only [go_sem, dnW_ite, reduceIte, Nat.reduceAdd, Nat.reduceLeDiff, Nat.reduceMul, Nat.reduceEqDiff, Int.reduceLT, Int.reduceLE, Int.reduceToNat, Nat.reduceSub, Nat.reduceLT, Int.reduceEq, BitVec.reduceOfInt, BitVec.reduceOfNat, Int.reduceGT, Int.reduceGE, Int.reduceBEq, Int.reduceBNe, Nat.reduceGT, Nat.reduceBEq, Nat.reduceBNe, Int.reduceAdd, Int.reduceSub, Int.reduceNeg, h.one, hm.lenF, List.length_map, show ((i : Int) < (ms.length : Int)) by omega, hat, hc]
      exact fin e
  · have e : g.mv ms i = g.dflt := by simp [Gm.mv, hv]
    simp -implicitDefEqProofs only [go_sem, dnW_ite, reduceIte, Nat.reduceAdd, Nat.reduceLeDiff, Nat.reduceMul, Nat.reduceEqDiff, Int.reduceLT, Int.reduceLE, Int.reduceToNat, Nat.reduceSub, Nat.reduceLT, Int.reduceEq, BitVec.reduceOfInt, BitVec.reduceOfNat, Int.reduceGT, Int.reduceGE, Int.reduceBEq, Int.reduceBNe, Nat.reduceGT, Nat.reduceBEq, Nat.reduceBNe, Int.reduceAdd, Int.reduceSub, Int.reduceNeg, h.one, hm.lenF, List.length_map, show ¬ ((i : Int) < (ms.length : Int)) by omega]
    exact fin e
theorem rStart_ok (g : Gm) (x y : IV) (h : GR g x y) (h48 : g.cells.length ≤ 48) (hv : IV) (H : List Int) (hh : Ls 1 hv (H.map (IV.int .i32))) (hb : H.length ≤ 9223372036854775807) (sd : Int) : ∃ c, pc BI F_ref10_Start [.agg (gmc g x y), .int .u64 sd, hv] = some (.agg (st3 c sd 0)) ∧ Ls 2 c ((g.bd0 h48 H).l.map Cl.e) := by
  have hbd : (g.bd0 h48 H).l = (hid g.cells H).1 := by simp [Gm.bd0, hidB]
  have key : ∃ u, pc BI F_ref10_Start [.agg (gmc g x y), .int .u64 sd, hv] = some u ∧ ∃ c, u = .agg (st3 c sd 0) ∧ Ls 2 c ((g.bd0 h48 H).l.map Cl.e) := by
    refine pcW fn_ref10_Start rfl fun K hK => ?_
    unfold l_ref10_Start
    simp -implicitDefEqProofs only [go_sem, dnW_ite, reduceIte, Nat.reduceAdd, Nat.reduceLeDiff, Nat.reduceMul, Nat.reduceEqDiff, Int.reduceLT, Int.reduceLE, Int.reduceToNat, Nat.reduceSub, Nat.reduceLT, Int.reduceEq, BitVec.reduceOfInt, BitVec.reduceOfNat, Int.reduceGT, Int.reduceGE, Int.reduceBEq, Int.reduceBNe, Nat.reduceGT, Nat.reduceBEq, Nat.reduceBNe, Int.reduceAdd, Int.reduceSub, Int.reduceNeg, h.one, h.x.lenF, List.length_map, dn_loop]
    refine WP_range (by decide) g.cells.length (fun i vs J => ∃ k out, vs = [.int .u64 sd, hv, .ptr 1 0 0, nI k, out, x, nI g.cells.length, nI i] ∧ J[1]? = some (.cells 0 [.sc (.slice none 0 0), .sc (.int .u64 0), .sc (.int .u32 0)] false) ∧ 1 ∉ blk out ∧ Grow J out 2 ((hid (g.cells.take i) H).1.map Cl.c).flatten ∧ k ≤ H.length ∧ (hid (g.cells.take i) H).2 = H.drop k) ?_ ⟨0, _, rfl, rfl, by simp [blk, blkOf], .nil, Nat.zero_le _, rfl⟩
    rintro i vs J ⟨k, out, rfl, h1, hn, hg, hkl, hdr⟩ hi K1 g1 g2 g3
    have hl1 := lt_get h1
    unfold l_ref10_Start_k1
    by_cases hi2 : i < g.cells.length
    · have hat := fun J => h.x.at (i := i) (by simpa using hi2) (J := J)
      simp only [List.getElem_map, Cl.e, Cl.c] at hat
      have hw1 := wrapS hi2 (show g.cells.length ≤ 9223372036854775807 by omega)
      have hsucc := hid_succ g.cells H hi2
      have hln : ((hid (g.cells.take i) H).1.map Cl.c).flatten.length + 1 ≤ 1000000 := by
        have := hid_len (g.cells.take i) ([], H)
        rw [flat_len (cl2 _), List.length_map]
        simp only [hid, this, List.length_take, List.length_nil]; omega
      have fin : ∀ (c : Cl) (r : List Int) (k' : Nat) (J' : JH) (xx : IV), Fr J J' [] → hidS (hid (g.cells.take i) H) g.cells[i] = ((hid (g.cells.take i) H).1 ++ [c], r) → r = H.drop k' → k' ≤ H.length → WP (thenD (appF 2 8 out (.lst 2 true [.agg c.c]) J') (o (.bin .add (.tmp 8) (.const (.int .i64 1))) <| .goto 1 [(.tmp 0), (.tmp 1), (.tmp 2), (.tmp 3), (.tmp 11), (.tmp 6), (.tmp 7), (.tmp 12)]) [.int .u64 sd, hv, .ptr 1 0 0, nI k', out, xx, x, nI g.cells.length, nI i, .agg c.c, .lst 2 true [.agg c.c]]) K1 := fun c r k' J' xx hf he hr hk' => by
        refine WP_bind ((hg.fr0 hf).app (m := 1) (ds := c.c) (by omega) rfl rfl rfl rfl (fits8 hln)) fun s' J2 hs => ?_
        obtain ⟨k1, k2, k3⟩ := hs
        have z := hf.1
        simp -implicitDefEqProofs only [go_sem, dnW_ite, reduceIte, Nat.reduceAdd, Nat.reduceLeDiff, Nat.reduceMul, Nat.reduceEqDiff, Int.reduceLT, Int.reduceLE, Int.reduceToNat, Nat.reduceSub, Nat.reduceLT, Int.reduceEq, BitVec.reduceOfInt, BitVec.reduceOfNat, Int.reduceGT, Int.reduceGE, Int.reduceBEq, Int.reduceBNe, Nat.reduceGT, Nat.reduceBEq, Nat.reduceBNe, Int.reduceAdd, Int.reduceSub, Int.reduceNeg, hw1]
        refine g1 hi2 _ _ ⟨k', s', rfl, by rw [k2.2 1 (by omega) hn, hf.2 1 hl1 (by simp)]; exact h1, fun hm => ?_, ?_, hk', by rw [hsucc, he]; exact hr⟩
        · rcases k3 1 hm with hm | hm
          · exact hn hm
          · omega
        · rw [hsucc, he, ← Cl.c_flat]; exact k1
      by_cases hc : g.cells[i].s = 0#32
      · by_cases hk : k < H.length
        · have hat2 := fun J => hh.at (i := k) (by simpa using hk) (J := J)
          simp only [List.getElem_map] at hat2
          have hw2 := wrapS hk hb
          simp -implicitDefEqProofs only [go_sem, dnW_ite, reduceIte, Nat.reduceAdd, Nat.reduceLeDiff, Nat.reduceMul, Nat.reduceEqDiff, Int.reduceLT, Int.reduceLE, Int.reduceToNat, Nat.reduceSub, Nat.reduceLT, Int.reduceEq, BitVec.reduceOfInt, BitVec.reduceOfNat, Int.reduceGT, Int.reduceGE, Int.reduceBEq, Int.reduceBNe, Nat.reduceGT, Nat.reduceBEq, Nat.reduceBNe, Int.reduceAdd, Int.reduceSub, Int.reduceNeg, show ((i : Int) < (g.cells.length : Int)) by omega, hat, hc, hh.lenF, List.length_map, show ((k : Int) < (H.length : Int)) by omega, hat2, hw2, l_ref10_Start_k0, isplice, ipureL, ipure, grp, mkE, List.headD, BitVec.toNat_ofNat, show ((((0 % 2 ^ 32 : Nat)) : Int) == 0) = true from rfl]
          refine fin ⟨H[k], 0#32⟩ (H.drop (k + 1)) (k + 1) _ _ ?_ ?_ rfl (by omega)
          · have hf := Fr.refl J []
            (have hsz_ := hf.1; repeat (first | with_reducible exact hf | with_reducible apply Fr.psh | ((with_reducible apply Fr.stn); rotate_left; first | omega | (simp only [Array.size_push, Array.size_setIfInBounds] <;> omega)) | ((with_reducible apply Fr.sts); rotate_left; focus (simp only [List.mem_cons, eq_self, true_or, or_true]; done))))
          · simp only [hidS, if_pos hc, hdr, List.drop_eq_getElem_cons hk]
        · simp -implicitDefEqProofs only [go_sem, dnW_ite, reduceIte, Nat.reduceAdd, Nat.reduceLeDiff, Nat.reduceMul, Nat.reduceEqDiff, Int.reduceLT, Int.reduceLE, Int.reduceToNat, Nat.reduceSub, Nat.reduceLT, Int.reduceEq, BitVec.reduceOfInt, BitVec.reduceOfNat, Int.reduceGT, Int.reduceGE, Int.reduceBEq, Int.reduceBNe, Nat.reduceGT, Nat.reduceBEq, Nat.reduceBNe, Int.reduceAdd, Int.reduceSub, Int.reduceNeg, show ((i : Int) < (g.cells.length : Int)) by omega, hat, hc, hh.lenF, List.length_map, show ¬ ((k : Int) < (H.length : Int)) by omega, l_ref10_Start_k0, isplice, ipureL, ipure, grp, mkE, List.headD, BitVec.toNat_ofNat, show ((((0 % 2 ^ 32 : Nat)) : Int) == 0) = true from rfl]
          refine fin ⟨g.cells[i].v, 0#32⟩ [] k _ _ ?_ ?_ (by rw [List.drop_of_length_le (by omega)]) hkl
          · have hf := Fr.refl J []
            (have hsz_ := hf.1; repeat (first | with_reducible exact hf | with_reducible apply Fr.psh | ((with_reducible apply Fr.stn); rotate_left; first | omega | (simp only [Array.size_push, Array.size_setIfInBounds] <;> omega)) | ((with_reducible apply Fr.sts); rotate_left; focus (simp only [List.mem_cons, eq_self, true_or, or_true]; done))))
          · simp only [hidS, if_pos hc, hdr, List.drop_of_length_le (show H.length ≤ k by omega)]
            rw [← hc]
      · have hc' : (((g.cells[i].s).toNat : Int) == 0) = false := by rw [beqB0]; simp [hc]
        simp -implicitDefEqProofs only [go_sem, dnW_ite, reduceIte, Nat.reduceAdd, Nat.reduceLeDiff, Nat.reduceMul, Nat.reduceEqDiff, Int.reduceLT, Int.reduceLE, Int.reduceToNat, Nat.reduceSub, Nat.reduceLT, Int.reduceEq, BitVec.reduceOfInt, BitVec.reduceOfNat, Int.reduceGT, Int.reduceGE, Int.reduceBEq, Int.reduceBNe, Nat.reduceGT, Nat.reduceBEq, Nat.reduceBNe, Int.reduceAdd, Int.reduceSub, Int.reduceNeg, show ((i : Int) < (g.cells.length : Int)) by omega, hat, ↓hc', l_ref10_Start_k0, ipureL, ipure, grp, mkE, List.headD]
        refine fin g.cells[i] (hid (g.cells.take i) H).2 k _ _ ?_ ?_ hdr hkl
        · have hf := Fr.refl J []
          (have hsz_ := hf.1; repeat (first | with_reducible exact hf | with_reducible apply Fr.psh | ((with_reducible apply Fr.stn); rotate_left; first | omega | (simp only [Array.size_push, Array.size_setIfInBounds] <;> omega)) | ((with_reducible apply Fr.sts); rotate_left; focus (simp only [List.mem_cons, eq_self, true_or, or_true]; done))))
        · simp only [hidS, if_neg hc]
    · simp -implicitDefEqProofs only [go_sem, dnW_ite, reduceIte, Nat.reduceAdd, Nat.reduceLeDiff, Nat.reduceMul, Nat.reduceEqDiff, Int.reduceLT, Int.reduceLE, Int.reduceToNat, Nat.reduceSub, Nat.reduceLT, Int.reduceEq, BitVec.reduceOfInt, BitVec.reduceOfNat, Int.reduceGT, Int.reduceGE, Int.reduceBEq, Int.reduceBNe, Nat.reduceGT, Nat.reduceBEq, Nat.reduceBNe, Int.reduceAdd, Int.reduceSub, Int.reduceNeg, show ¬ ((i : Int) < (g.cells.length : Int)) by omega]
      refine g2 _ _ ?_
      unfold l_ref10_Start_k2
      simp -implicitDefEqProofs only [go_sem, dnW_ite, reduceIte, Nat.reduceAdd, Nat.reduceLeDiff, Nat.reduceMul, Nat.reduceEqDiff, Int.reduceLT, Int.reduceLE, Int.reduceToNat, Nat.reduceSub, Nat.reduceLT, Int.reduceEq, BitVec.reduceOfInt, BitVec.reduceOfNat, Int.reduceGT, Int.reduceGE, Int.reduceBEq, Int.reduceBNe, Nat.reduceGT, Nat.reduceBEq, Nat.reduceBNe, Int.reduceAdd, Int.reduceSub, Int.reduceNeg, h1, inb h1, ↓hg.icells, ↓hg.one, isplice]
      rw [List.take_of_length_le (by omega)] at hg
      have hg2 := hg.fr (Fr.set J (b := 1) (.cells 0 [out, .int .u64 sd, .sc (.int .u32 0)] false) (S := [1]) (by simp)) (fun c hc hm => by simp at hm; subst hm; exact hn hc)
      obtain ⟨u, hu, hul⟩ := hg2.frzX (cl2 _) (by decide) (cl_pure _) (flat_one _)
      rw [cl_mk] at hul
      refine hK _ _ (.agg (st3 u sd 0)) (frz_aggL (k := 11) ?_) ⟨u, rfl, by rw [hbd]; exact hul⟩
      rw [List.mapM_cons, List.mapM_cons, List.mapM_cons, hu 10, frz_pure (v := .int .u64 sd) _ _ rfl, frz_pure (v := .sc (.int .u32 0)) _ _ rfl]
      rfl
  obtain ⟨u, h1, c, rfl, h2⟩ := key
  exact ⟨c, h1, h2⟩
end Go.Proofs.Ytcdlipdeemlibaa.G
namespace Go.Proofs.Ytcdlipdeemlibaa.G
open Go
set_option linter.unusedSimpArgs false
set_option linter.unusedVariables false
set_option maxRecDepth 20000
set_option maxHeartbeats 2000000
theorem rStep_ok (g : Gm) (x y : IV) (h : GR g x y) (hr : g.right = true) (hw : ∀ c ∈ g.code, c.wf) (c : IV) (b : Bd) (hc : Ls 2 c (b.l.map Cl.e)) (hbk : b.ok) (d t : Int) (mv : IV) (ms : List (BitVec 32)) (hm : Ls 1 mv (ms.map m32)) :
    ∃ c' s, pc BI F_ref10_Step [.agg (gmc g x y), .agg (st3 c d t), mv] = some (.tup [.agg (st3 c' (g.run ms b d t).dice (IntKind.u32.wrap (t + 1))), .agg (rsC (g.run ms b d t) c' s)]) ∧ Ls 2 c' ((g.run ms b d t).bd.l.map Cl.e) ∧ Ls 3 s ((g.run ms b d t).shows.map Sh.e) := by
  obtain ⟨h1, h6, hR⟩ := right_players hr
  obtain ⟨p, hp⟩ : ∃ p : Nat, g.players = p := ⟨g.players.toNat, by omega⟩
  have hpn : g.players.toNat = p := by omega
  have key : ∃ u, pc BI F_ref10_Step [.agg (gmc g x y), .agg (st3 c d t), mv] = some u ∧ ∃ c' s, u = .tup [.agg (st3 c' (g.run ms b d t).dice (IntKind.u32.wrap (t + 1))), .agg (rsC (g.run ms b d t) c' s)] ∧ Ls 2 c' ((g.run ms b d t).bd.l.map Cl.e) ∧ Ls 3 s ((g.run ms b d t).shows.map Sh.e) := by
    refine pcW fn_ref10_Step rfl fun K hK => ?_
    have z3 : (st3 c d t).all ione = true := by
      have := hc.one
      simp only [st3, List.all_cons, List.all_nil, this]; rfl
    unfold l_ref10_Step
    simp -implicitDefEqProofs only [go_sem, dnW_ite, reduceIte, Nat.reduceAdd, Nat.reduceLeDiff, Nat.reduceMul, Nat.reduceEqDiff, Int.reduceLT, Int.reduceLE, Int.reduceToNat, Nat.reduceSub, Nat.reduceLT, Int.reduceEq, BitVec.reduceOfInt, BitVec.reduceOfNat, Int.reduceGT, Int.reduceGE, Int.reduceBEq, Int.reduceBNe, Nat.reduceGT, Nat.reduceBEq, Nat.reduceBNe, Int.reduceAdd, Int.reduceSub, Int.reduceNeg, h.one, z3, dn_loop]
    refine WP_range (by decide) p (fun i vs J => ∃ out, vs = [mv, .ptr 0 0 0, .ptr 1 0 0, .ptr 2 0 0, .ptr 3 0 0, out, nI i] ∧ J[0]? = some (.cells 0 (gmc g x y) false) ∧ J[1]? = some (.cells 0 (st3 c d t) false) ∧ J[2]? = some (.cells 0 [.sc (.slice none 0 0), .sc (.int .u64 0), .sc (.int .u32 0)] false) ∧ J[3]? = some (.cells 0 z9 false) ∧ (∀ e ∈ blk out, 4 ≤ e) ∧ Grow J out 1 ((g.allF ms i).map (IV.int .i32))) ?_ ⟨_, rfl, rfl, rfl, rfl, rfl, by simp [blk, blkOf], .nil⟩
    rintro i vs J ⟨out, rfl, h0, h1, h2, h3, hb, hg⟩ hi K1 g1 g2 g3
    have hl3 := lt_get h3
    unfold l_ref10_Step_k0
    by_cases hlt : i < p
    · have hw1 := wrapS hlt (show p ≤ 9223372036854775807 by omega)
      simp -implicitDefEqProofs only [go_sem, dnW_ite, reduceIte, Nat.reduceAdd, Nat.reduceLeDiff, Nat.reduceMul, Nat.reduceEqDiff, Int.reduceLT, Int.reduceLE, Int.reduceToNat, Nat.reduceSub, Nat.reduceLT, Int.reduceEq, BitVec.reduceOfInt, BitVec.reduceOfNat, Int.reduceGT, Int.reduceGE, Int.reduceBEq, Int.reduceBNe, Nat.reduceGT, Nat.reduceBEq, Nat.reduceBNe, Int.reduceAdd, Int.reduceSub, Int.reduceNeg, h0, hp, show ((i : Int) < (p : Int)) by omega, dcp (rMove_ok g x y h mv ms hm i) (by simp [ipureL, ipure, h.pure, hm.pure]), ipureL, ipure, grp, mkE, List.headD]
      refine WP_bind (hg.app (m := 1) (ds := [.int .i32 (IntKind.i32.wrap ((g.mv ms i).toNat : Int))]) (by omega) rfl rfl rfl rfl (fits4r ?_)) fun out' J2 hs2 => ?_
      · rw [List.length_map, allF_len]; omega
      obtain ⟨k1, k2, k3⟩ := hs2
      have up : ∀ e X, e < 4 → J[e]? = some X → J2[e]? = some X := fun e X he hx => by rw [k2.2 e (lt_get hx) (fun hm => by have := hb _ hm; omega)]; exact hx
      simp -implicitDefEqProofs only [go_sem, dnW_ite, reduceIte, Nat.reduceAdd, Nat.reduceLeDiff, Nat.reduceMul, Nat.reduceEqDiff, Int.reduceLT, Int.reduceLE, Int.reduceToNat, Nat.reduceSub, Nat.reduceLT, Int.reduceEq, BitVec.reduceOfInt, BitVec.reduceOfNat, Int.reduceGT, Int.reduceGE, Int.reduceBEq, Int.reduceBNe, Nat.reduceGT, Nat.reduceBEq, Nat.reduceBNe, Int.reduceAdd, Int.reduceSub, Int.reduceNeg, hw1]
      refine g1 hlt _ _ ⟨out', rfl, up _ _ (by omega) h0, up _ _ (by omega) h1, up _ _ (by omega) h2, up _ _ (by omega) h3, fun e he => ?_, ?_⟩
      · rcases k3 e he with hm | hm
        · exact hb e hm
        · omega
      · rw [allF_succ, List.map_append]; exact k1
    · simp -implicitDefEqProofs only [go_sem, dnW_ite, reduceIte, Nat.reduceAdd, Nat.reduceLeDiff, Nat.reduceMul, Nat.reduceEqDiff, Int.reduceLT, Int.reduceLE, Int.reduceToNat, Nat.reduceSub, Nat.reduceLT, Int.reduceEq, BitVec.reduceOfInt, BitVec.reduceOfNat, Int.reduceGT, Int.reduceGE, Int.reduceBEq, Int.reduceBNe, Nat.reduceGT, Nat.reduceBEq, Nat.reduceBNe, Int.reduceAdd, Int.reduceSub, Int.reduceNeg, h0, hp, show ¬ ((i : Int) < (p : Int)) by omega]
      obtain rfl : i = p := by omega
      refine g2 _ _ ?_
      obtain ⟨u, hu, hul⟩ := hg.frzE1 ints_pure ints_ione
      have hsh := hg.shows ints_pure
      have hE : (g.env ms t u).ok := ⟨by show Ls 1 u ((g.allF ms g.players.toNat).map (IV.int .i32)); rw [hpn]; exact hul, allF_rng _ _ _, by show (g.allF ms g.players.toNat).length ≤ _; rw [allF_len]; omega⟩
      obtain ⟨w, hr1, c', s, hcl, hsl, rfl⟩ := rRun_ok (E := g.env ms t u) y c g.code b h.y hc hbk d hE hw (by show (g.allF ms g.players.toNat).length ≤ _; rw [allF_len]; omega)
      rw [run_mv] at hr1 hcl hsl
      have hr1' : pc BI F_ref09_Run [y, c, .int .u64 d, u, .int .u32 (IntKind.u32.wrap (t + 1)), m32 (allM g.obs)] = some (.agg (rsC (g.run ms b d t) c' s)) := hr1
      have hK' : ∀ J', K (.ret [.agg (st3 c' (g.run ms b d t).dice (IntKind.u32.wrap (t + 1))), .agg (rsC (g.run ms b d t) c' s)]) J' := fun J' => hK _ _ _ (frzP (by simp [itup, ipure, ipureL, st3, rsC, hcl.pure, hsl.pure])) ⟨c', s, rfl, hcl, hsl⟩
      generalize g.run ms b d t = R at *
      have hro : (rsC R c' s).all ione = true := by
        have a1 := hcl.one
        have a2 := hsl.one
        simp only [rsC, List.all_cons, List.all_nil, a1, a2]; rfl
      have r0 : (rsC R c' s).take 1 = [c'] := rfl
      have r1 : ((rsC R c' s).drop 1).take 1 = [.int .u64 R.dice] := rfl
      have rl : (rsC R c' s).length = 6 := rfl
      have rt : (rsC R c' s).take 6 = rsC R c' s := rfl
      have rz : ∀ z, z.length = 6 → isplice z 0 (rsC R c' s) = rsC R c' s := fun z hz => by simp only [isplice, List.take_zero, List.nil_append, Nat.zero_add, rl]; rw [List.drop_of_length_le (by omega), List.append_nil]
      have rz1 := rz [.sc (.slice none 0 0), .sc (.int .u64 0), .sc (.int .u64 0), .sc (.slice none 0 0), .sc (.int .i64 0), .sc (.int .i64 0)] rfl
      have rz2 := rz z9 rfl
      unfold l_ref10_Step_k1
      have s0 : (st3 c d t).take 1 = [c] := rfl
      have s1 : ((st3 c d t).drop 1).take 1 = [.int .u64 d] := rfl
      have s2 : ((st3 c d t).drop 2).take 1 = [.int .u32 t] := rfl
      have sl : (st3 c d t).length = 3 := rfl
      simp -implicitDefEqProofs only [go_sem, dnW_ite, reduceIte, Nat.reduceAdd, Nat.reduceLeDiff, Nat.reduceMul, Nat.reduceEqDiff, Int.reduceLT, Int.reduceLE, Int.reduceToNat, Nat.reduceSub, Nat.reduceLT, Int.reduceEq, BitVec.reduceOfInt, BitVec.reduceOfNat, Int.reduceGT, Int.reduceGE, Int.reduceBEq, Int.reduceBNe, Nat.reduceGT, Nat.reduceBEq, Nat.reduceBNe, Int.reduceAdd, Int.reduceSub, Int.reduceNeg, h0, h1, s0, s1, s2, sl, inb h0, inb h1, inb h2, inb h3, dcp (rAll_ok g.obs) rfl, ↓hc.one]
      have hgp : Grow (J.push (.cells 0 [IV.sc (Value.slice none 0 0), IV.sc (Value.int IntKind.u64 0), IV.sc (Value.int IntKind.u64 0), IV.sc (Value.slice none 0 0), IV.sc (Value.int IntKind.i64 0), IV.sc (Value.int IntKind.i64 0)] false)) out 1 ((g.allF ms i).map (IV.int .i32)) := hg.fr0 (.push _ _ _)
      have huP : frz (J.push (.cells 0 [IV.sc (Value.slice none 0 0), IV.sc (Value.int IntKind.u64 0), IV.sc (Value.int IntKind.u64 0), IV.sc (Value.slice none 0 0), IV.sc (Value.int IntKind.i64 0), IV.sc (Value.int IntKind.i64 0)] false)) DEP out = some u := by
        obtain ⟨u2, hu2, hul2⟩ := hgp.frzE1 ints_pure ints_ione
        have e1 := hu 11
        have e2 := hu2 11
        rcases hg with ⟨rfl, e⟩ | ⟨bb, v, n, full, rfl, q1, q2, q3, q4⟩
        · rw [frz_pure (v := .sc (.slice none 0 0)) _ _ rfl] at e1
          rw [← e1]; exact frz_pure _ _ rfl
        · have hrd : ird J bb v 0 (n * 1) = some ((g.allF ms i).map (IV.int .i32)) := by
            simp only [ird, q1, true_and, Nat.zero_add, if_pos q2, List.drop_zero, q3]
          have hrd2 : ird (J.push (.cells 0 [IV.sc (Value.slice none 0 0), IV.sc (Value.int IntKind.u64 0), IV.sc (Value.int IntKind.u64 0), IV.sc (Value.slice none 0 0), IV.sc (Value.int IntKind.i64 0), IV.sc (Value.int IntKind.i64 0)] false)) bb v 0 (n * 1) = some ((g.allF ms i).map (IV.int .i32)) := by
            have := lt_get q1
            simp only [ird, gpN this q1, true_and, Nat.zero_add, if_pos q2, List.drop_zero, q3]
          rw [frz_sl (by decide) hrd ints_pure ints_ione] at e1
          show frz _ (11 + 1) _ = _
          rw [frz_sl (by decide) hrd2 ints_pure ints_ione]; exact e1
      refine WP_callG (S := blk out) (.pure h.y.pure (.pure hc.pure (.pure rfl (.raw huP (hgp.shows ints_pure) (.pure rfl (.pure rfl .nil)))))) hr1' fun J2 f2 z2 => ?_
      have up : ∀ e X, e < 4 → J[e]? = some X → J2[e]? = some X := fun e X he hx => by rw [f2.2 e (by have := lt_get hx; simp; omega) (fun hm => by have := hb _ hm; omega), Array.getElem?_push, if_neg (by have := lt_get hx; omega)]; exact hx
      have m0 := up _ _ (by omega) h0
      have m1 := up _ _ (by omega) h1
      have m2 := up _ _ (by omega) h2
      have m3 := up _ _ (by omega) h3
      have mz : J2[J.size]? = some (.cells 0 z9 false) := by
        rw [f2.2 J.size (by simp) (fun hm => by have := hg.low _ hm; omega)]; exact push_get _ _
      have hz9 : z9.length = 6 := rfl
      have hone := hcl.one
      have d0 := lt_get m0
      simp -implicitDefEqProofs only [go_sem, dnW_ite, reduceIte, Nat.reduceAdd, Nat.reduceLeDiff, Nat.reduceMul, Nat.reduceEqDiff, Int.reduceLT, Int.reduceLE, Int.reduceToNat, Nat.reduceSub, Nat.reduceLT, Int.reduceEq, BitVec.reduceOfInt, BitVec.reduceOfNat, Int.reduceGT, Int.reduceGE, Int.reduceBEq, Int.reduceBNe, Nat.reduceGT, Nat.reduceBEq, Nat.reduceBNe, Int.reduceAdd, Int.reduceSub, Int.reduceNeg, m0, m1, m2, m3, mz, inb m0, inb m1, inb m2, inb m3, inb mz, hro, r0, r1, rl, rt, ↓rz1, ↓rz2, hz9, s0, s1, s2, sl, ↓hcl.one, ↓hcl.icells, show (J.size == 2) = false by simp <;> omega, show ¬ (J.size = 0) by omega, show ¬ (J.size = 1) by omega, show ¬ (J.size = 2) by omega, show ¬ (J.size = 3) by omega, show ¬ (2 = J.size) by omega, show ¬ (3 = J.size) by omega, show ¬ (0 = J.size) by omega, show ¬ (1 = J.size) by omega]
      exact hK' _
  obtain ⟨u, hu, c', s, rfl, a, b⟩ := key
  exact ⟨c', s, hu, a, b⟩
theorem preM_at (g : Gm) (o : Int) (m : BitVec 32) {i : Nat} (h : i < g.players.toNat) (h' : i < (g.preM o m).length) : (g.preM o m)[i] = if (i : Int) = o then m else g.dflt := by
  simp only [Gm.preM] at h' ⊢
  by_cases h0 : 0 ≤ o
  · simp only [if_pos h0] at h' ⊢
    rw [List.getElem_set]
    by_cases e : (i : Int) = o
    · rw [if_pos e, if_pos (by omega)]
    · rw [if_neg e, if_neg (by omega), List.getElem_replicate]
  · simp only [if_neg h0] at h' ⊢
    rw [List.getElem_replicate, if_neg (by omega)]
theorem preM_len (g : Gm) (o : Int) (m : BitVec 32) : (g.preM o m).length = g.players.toNat := by
  unfold Gm.preM; split <;> simp
theorem rPredict_ok (g : Gm) (x y : IV) (h : GR g x y) (hr : g.right = true) (hw : ∀ c ∈ g.code, c.wf) (c : IV) (b : Bd) (hc : Ls 2 c (b.l.map Cl.e)) (hbk : b.ok) (d t o : Int) (m : BitVec 32) :
    ∃ c', pc BI F_ref10_Predict [.agg (gmc g x y), .agg (st3 c d t), .int .i64 o, m32 m] = some (.agg (st3 c' 0 (IntKind.u32.wrap (t + 1)))) ∧ Ls 2 c' (((g.run (g.preM o m) b d t).bd.view o).l.map Cl.e) := by
  obtain ⟨h1, h6, hR⟩ := right_players hr
  obtain ⟨p, hp⟩ : ∃ p : Nat, g.players = p := ⟨g.players.toNat, by omega⟩
  have hpn : g.players.toNat = p := by omega
  have key : ∃ u, pc BI F_ref10_Predict [.agg (gmc g x y), .agg (st3 c d t), .int .i64 o, m32 m] = some u ∧ ∃ c', u = .agg (st3 c' 0 (IntKind.u32.wrap (t + 1))) ∧ Ls 2 c' (((g.run (g.preM o m) b d t).bd.view o).l.map Cl.e) := by
    refine pcW fn_ref10_Predict rfl fun K hK => ?_
    have z3 : (st3 c d t).all ione = true := by
      have := hc.one
      simp only [st3, List.all_cons, List.all_nil, this]; rfl
    unfold l_ref10_Predict
    simp -implicitDefEqProofs only [go_sem, dnW_ite, reduceIte, Nat.reduceAdd, Nat.reduceLeDiff, Nat.reduceMul, Nat.reduceEqDiff, Int.reduceLT, Int.reduceLE, Int.reduceToNat, Nat.reduceSub, Nat.reduceLT, Int.reduceEq, BitVec.reduceOfInt, BitVec.reduceOfNat, Int.reduceGT, Int.reduceGE, Int.reduceBEq, Int.reduceBNe, Nat.reduceGT, Nat.reduceBEq, Nat.reduceBNe, Int.reduceAdd, Int.reduceSub, Int.reduceNeg, h.one, z3, dn_loop]
    refine WP_range (by decide) p (fun i vs J => ∃ out, vs = [.int .i64 o, m32 m, .ptr 0 0 0, .ptr 1 0 0, .ptr 2 0 0, out, nI i] ∧ J[0]? = some (.cells 0 (gmc g x y) false) ∧ J[1]? = some (.cells 0 (st3 c d t) false) ∧ J[2]? = some (.cells 0 [.sc (.slice none 0 0), .sc (.int .u64 0), .sc (.int .u32 0)] false) ∧ (∀ e ∈ blk out, 3 ≤ e) ∧ Grow J out 1 (((g.preM o m).take i).map m32)) ?_ ⟨_, rfl, rfl, rfl, rfl, by simp [blk, blkOf], .nil⟩
    rintro i vs J ⟨out, rfl, h0, h1, h2, hb, hg⟩ hi K1 g1 g2 g3
    have hl2 := lt_get h2
    unfold l_ref10_Predict_k1
    by_cases hlt : i < p
    · have hw1 := wrapS hlt (show p ≤ 9223372036854775807 by omega)
      have hlen : i < (g.preM o m).length := by rw [preM_len, hpn]; exact hlt
      have hat := preM_at g o m (i := i) (by rw [hpn]; exact hlt) hlen
      have fin : ∀ mm, mm = (g.preM o m)[i] → WP (dn BI l_ref10_Predict_k0 [.int .i64 o, m32 m, .ptr 0 0 0, .ptr 1 0 0, .ptr 2 0 0, out, nI i, m32 mm] J) K1 := fun mm hmm => by
        unfold l_ref10_Predict_k0
        simp -implicitDefEqProofs only [go_sem, dnW_ite, reduceIte, Nat.reduceAdd, Nat.reduceLeDiff, Nat.reduceMul, Nat.reduceEqDiff, Int.reduceLT, Int.reduceLE, Int.reduceToNat, Nat.reduceSub, Nat.reduceLT, Int.reduceEq, BitVec.reduceOfInt, BitVec.reduceOfNat, Int.reduceGT, Int.reduceGE, Int.reduceBEq, Int.reduceBNe, Nat.reduceGT, Nat.reduceBEq, Nat.reduceBNe, Int.reduceAdd, Int.reduceSub, Int.reduceNeg, ipureL, ipure, grp, mkE, List.headD]
        refine WP_bind (hg.app (m := 1) (ds := [m32 mm]) (by omega) rfl rfl rfl rfl (fits4r ?_)) fun out' J2 hs2 => ?_
        · simp; omega
        obtain ⟨k1, k2, k3⟩ := hs2
        have up : ∀ e X, e < 3 → J[e]? = some X → J2[e]? = some X := fun e X he hx => by rw [k2.2 e (lt_get hx) (fun hm => by have := hb _ hm; omega)]; exact hx
        simp -implicitDefEqProofs only [go_sem, dnW_ite, reduceIte, Nat.reduceAdd, Nat.reduceLeDiff, Nat.reduceMul, Nat.reduceEqDiff, Int.reduceLT, Int.reduceLE, Int.reduceToNat, Nat.reduceSub, Nat.reduceLT, Int.reduceEq, BitVec.reduceOfInt, BitVec.reduceOfNat, Int.reduceGT, Int.reduceGE, Int.reduceBEq, Int.reduceBNe, Nat.reduceGT, Nat.reduceBEq, Nat.reduceBNe, Int.reduceAdd, Int.reduceSub, Int.reduceNeg, hw1]
        refine g1 hlt _ _ ⟨out', rfl, up _ _ (by omega) h0, up _ _ (by omega) h1, up _ _ (by omega) h2, fun e he => ?_, ?_⟩
        · rcases k3 e he with hm | hm
          · exact hb e hm
          · omega
        · rw [List.take_succ_eq_append_getElem hlen, List.map_append, ← hmm]; exact k1
      by_cases he : (i : Int) = o
      · have he' : ((i : Int) == o) = true := by simp [he]
        simp -implicitDefEqProofs only [go_sem, dnW_ite, reduceIte, Nat.reduceAdd, Nat.reduceLeDiff, Nat.reduceMul, Nat.reduceEqDiff, Int.reduceLT, Int.reduceLE, Int.reduceToNat, Nat.reduceSub, Nat.reduceLT, Int.reduceEq, BitVec.reduceOfInt, BitVec.reduceOfNat, Int.reduceGT, Int.reduceGE, Int.reduceBEq, Int.reduceBNe, Nat.reduceGT, Nat.reduceBEq, Nat.reduceBNe, Int.reduceAdd, Int.reduceSub, Int.reduceNeg, h0, hp, show ((i : Int) < (p : Int)) by omega, he']
        exact fin m (by rw [hat, if_pos he])
      · have he' : ((i : Int) == o) = false := by simp [he]
        simp -implicitDefEqProofs only [go_sem, dnW_ite, reduceIte, Nat.reduceAdd, Nat.reduceLeDiff, Nat.reduceMul, Nat.reduceEqDiff, Int.reduceLT, Int.reduceLE, Int.reduceToNat, Nat.reduceSub, Nat.reduceLT, Int.reduceEq, BitVec.reduceOfInt, BitVec.reduceOfNat, Int.reduceGT, Int.reduceGE, Int.reduceBEq, Int.reduceBNe, Nat.reduceGT, Nat.reduceBEq, Nat.reduceBNe, Int.reduceAdd, Int.reduceSub, Int.reduceNeg, h0, hp, show ((i : Int) < (p : Int)) by omega, he']
        exact fin g.dflt (by rw [hat, if_neg he])
    · simp -implicitDefEqProofs only [go_sem, dnW_ite, reduceIte, Nat.reduceAdd, Nat.reduceLeDiff, Nat.reduceMul, Nat.reduceEqDiff, Int.reduceLT, Int.reduceLE, Int.reduceToNat, Nat.reduceSub, Nat.reduceLT, Int.reduceEq, BitVec.reduceOfInt, BitVec.reduceOfNat, Int.reduceGT, Int.reduceGE, Int.reduceBEq, Int.reduceBNe, Nat.reduceGT, Nat.reduceBEq, Nat.reduceBNe, Int.reduceAdd, Int.reduceSub, Int.reduceNeg, h0, hp, show ¬ ((i : Int) < (p : Int)) by omega]
      obtain rfl : i = p := by omega
      refine g2 _ _ ?_
      rw [List.take_of_length_le (by rw [preM_len, hpn]; exact Nat.le_refl _)] at hg
      obtain ⟨u, hu, hul⟩ := hg.frzE1 (m32_pure _) (m32_ione _)
      have hsh := hg.shows (m32_pure _)
      obtain ⟨c', s, hS, hcl, hsl⟩ := rStep_ok g x y h hr hw c b hc hbk d t u (g.preM o m) hul
      have hlen2 := step_len g (g.preM o m) b d t
      have hbl := b.h
      generalize g.run (g.preM o m) b d t = R at *
      obtain ⟨v, hV, hvl⟩ := rView_ok c' R.bd.l hcl (by omega) R.dice (IntKind.u32.wrap (t + 1)) o
      have hro : (rsC R c' s).all ione = true := by
        have a1 := hcl.one
        have a2 := hsl.one
        simp only [rsC, List.all_cons, List.all_nil, a1, a2]; rfl
      have h3o : ∀ {cc : IV} {dd tt : Int}, ione cc = true → (st3 cc dd tt).all ione = true := fun ho => by
        simp only [st3, List.all_cons, List.all_nil, ho]; rfl
      have o1 := h3o hcl.one (dd := R.dice) (tt := IntKind.u32.wrap (t + 1))
      have o2 := h3o hvl.one (dd := 0) (tt := IntKind.u32.wrap (t + 1))
      unfold l_ref10_Predict_k2
      have sl : ∀ cc dd tt, (st3 cc dd tt).length = 3 := fun _ _ _ => rfl
      have st : ∀ cc dd tt, (st3 cc dd tt).take 3 = st3 cc dd tt := fun _ _ _ => rfl
      have sp : ∀ cc dd tt, isplice [.sc (.slice none 0 0), .sc (.int .u64 0), .sc (.int .u32 0)] 0 (st3 cc dd tt) = st3 cc dd tt := fun _ _ _ => rfl
      have rl : (rsC R c' s).length = 6 := rfl
      simp -implicitDefEqProofs only [go_sem, dnW_ite, reduceIte, Nat.reduceAdd, Nat.reduceLeDiff, Nat.reduceMul, Nat.reduceEqDiff, Int.reduceLT, Int.reduceLE, Int.reduceToNat, Nat.reduceSub, Nat.reduceLT, Int.reduceEq, BitVec.reduceOfInt, BitVec.reduceOfNat, Int.reduceGT, Int.reduceGE, Int.reduceBEq, Int.reduceBNe, Nat.reduceGT, Nat.reduceBEq, Nat.reduceBNe, Int.reduceAdd, Int.reduceSub, Int.reduceNeg, h0, h1, sl, st]
      refine WP_callG (S := blk out) (.pure (by simp [ipure, h.pure]) (.pure (by simp [ipure, ipureL, st3, hc.pure]) (.raw (hu 11) hsh .nil))) hS fun J2 f2 z2 => ?_
      have m2 : J2[2]? = some (.cells 0 [.sc (.slice none 0 0), .sc (.int .u64 0), .sc (.int .u32 0)] false) := by rw [f2.2 2 hl2 (fun hm => by have := hb _ hm; omega)]; exact h2
      simp -implicitDefEqProofs only [go_sem, dnW_ite, reduceIte, Nat.reduceAdd, Nat.reduceLeDiff, Nat.reduceMul, Nat.reduceEqDiff, Int.reduceLT, Int.reduceLE, Int.reduceToNat, Nat.reduceSub, Nat.reduceLT, Int.reduceEq, BitVec.reduceOfInt, BitVec.reduceOfNat, Int.reduceGT, Int.reduceGE, Int.reduceBEq, Int.reduceBNe, Nat.reduceGT, Nat.reduceBEq, Nat.reduceBNe, Int.reduceAdd, Int.reduceSub, Int.reduceNeg, m2, inb m2, o1, o2, sl, st, ↓sp, hro, rl, dcp hV (by simp [ipureL, ipure, st3, hcl.pure])]
      exact hK _ _ _ (frzP (by simp [itup, ipure, ipureL, st3, hvl.pure])) ⟨v, rfl, hvl⟩
  obtain ⟨u, hu, c', rfl, hcl⟩ := key
  exact ⟨c', hu, hcl⟩
end Go.Proofs.Ytcdlipdeemlibaa.G
