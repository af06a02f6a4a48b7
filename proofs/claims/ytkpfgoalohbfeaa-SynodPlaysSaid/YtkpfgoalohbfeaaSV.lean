/- Paxos' law of the room, plainly: what was ever proposed, who ever voted; one value. -/
import Derived.Test.YtkpfgoalohbfeaaSA
namespace Go.Proofs.Ytkpfgoalohbfeaa

def bLt (a : Nat) (b : Int) (c : Nat) (d : Int) : Prop := a < c ∨ (a = c ∧ b < d)
def bLe (a : Nat) (b : Int) (c : Nat) (d : Int) : Prop := a < c ∨ (a = c ∧ b ≤ d)
section
variable {a c e : Nat} {b d f : Int}
theorem less_lt (h : lessB a b c d = true) : bLt a b c d := lessB_iff.1 h
theorem less_no (h : lessB a b c d = false) : bLe c d a b := by have := lessB_no.1 h; unfold bLe; omega
theorem bLe.rfl' : bLe a b a b := by unfold bLe; omega
theorem bLe.tr (h : bLe a b c d) (k : bLe c d e f) : bLe a b e f := by unfold bLe at *; omega
theorem bLt.tr (h : bLt a b c d) (k : bLe c d e f) : bLt a b e f := by unfold bLe bLt at *; omega
theorem bLe.lt (h : bLe a b c d) (k : bLt c d e f) : bLt a b e f := by unfold bLe bLt at *; omega
theorem bLt.not (h : bLt a b c d) (k : bLe c d a b) : False := by unfold bLe bLt at *; omega
theorem bLe.of (h : ¬ bLt a b c d) : bLe c d a b := by unfold bLe bLt at *; omega
theorem bLt.le (h : bLt a b c d) : bLe a b c d := by unfold bLe bLt at *; omega
theorem b3 (a : Nat) (b : Int) (c : Nat) (d : Int) : bLt a b c d ∨ (a = c ∧ b = d) ∨ bLt c d a b := by unfold bLt; omega
end

/-- What was ever proposed, and who ever voted for it. -/
structure Gh where
  prop : Nat → Int → Option (List UInt8)
  acc : Nat → Nat → Int → Prop
def Gh.le (g g' : Gh) : Prop := (∀ n d v, g.prop n d = some v → g'.prop n d = some v) ∧ ∀ a n d, g.acc a n d → g'.acc a n d
theorem Gh.le_refl (g : Gh) : g.le g := ⟨fun _ _ _ h => h, fun _ _ _ h => h⟩
theorem Gh.le_tr {g g' g2 : Gh} (h : g.le g') (k : g'.le g2) : g.le g2 := ⟨fun n d v e => k.1 n d v (h.1 n d v e), fun a n d e => k.2 a n d (h.2 a n d e)⟩
def Used (st : Sy) (n : Nat) (d : Int) : Prop := 1 ≤ n ∧ 0 ≤ d ∧ d < (st.N : Int) ∧ n ≤ (st.nd d.toNat).seen
def Chosen (q : Qu) (g : Gh) (v : List UInt8) : Prop := ∃ n d X, g.prop n d = some v ∧ isQ q true X = true ∧ ∀ j, j < q.n.toNat → X j = true → g.acc j n d

structure LI (st : Sy) (g : Gh) (m : Lt) : Prop where
  used : Used st m.n m.d
  k : m.k = 1 ∨ m.k = 2 ∨ m.k = 3 ∨ m.k = 4
  k2 : m.k = 2 → bLe m.n m.d (st.nd m.fr).pn (st.nd m.fr).pd ∧ (∀ v ∈ m.vs, v.s = 1 ∧ g.prop v.n v.d = some v.v) ∧ ∀ c e, g.acc m.fr c e → bLt c e m.n m.d → ∃ v ∈ m.vs, bLe c e v.n v.d
  k3 : m.k = 3 → ∃ v, m.vs = [v] ∧ v.s = 1 ∧ v.n = m.n ∧ v.d = m.d ∧ g.prop m.n m.d = some v.v
  k4 : m.k = 4 → g.acc m.fr m.n m.d
structure PI (st : Sy) (g : Gh) (S : List UInt8 → Prop) (a : Nat) (x : Nd) (p : Ps) : Prop where
  bd : x.bd = (a : Int)
  bn : 1 ≤ x.bn ∧ x.bn ≤ x.seen
  own : S x.val
  set : ∀ j, j < st.N → p.set.testBit j = true → bLe x.bn x.bd (st.nd j).pn (st.nd j).pd ∧ ∀ c e, g.acc j c e → bLt c e x.bn x.bd → ∃ m nd, p.mu 1 = some (m, nd) ∧ bLe c e m.n m.d
  mu : ∀ m nd, p.mu 1 = some (m, nd) → g.prop m.n m.d = some m.v ∧ bLt m.n m.d x.bn x.bd ∧ m.v.length ≤ 100
  sl : (p.sl 1 = none ∧ g.prop x.bn x.bd = none) ∨ ∃ V X, p.sl 1 = some (V, X) ∧ V.s = 1 ∧ V.n = x.bn ∧ V.d = x.bd ∧ g.prop x.bn x.bd = some V.v ∧ ∀ j, j < st.N → X.testBit j = true → g.acc j x.bn x.bd
structure NI (st : Sy) (g : Gh) (S : List UInt8 → Prop) (a : Nat) (x : Nd) : Prop where
  pr : x.pn = 0 ∨ Used st x.pn x.pd
  vt : (x.vt.s = 0 ∧ x.vt.n = 0 ∧ x.vt.d = 0 ∧ ∀ c e, ¬ g.acc a c e) ∨ (x.vt.s = 1 ∧ g.acc a x.vt.n x.vt.d ∧ g.prop x.vt.n x.vt.d = some x.vt.v ∧ ∀ c e, g.acc a c e → bLe c e x.vt.n x.vt.d)
  ac : ∀ c e, g.acc a c e → bLe c e x.pn x.pd
  p : ∀ p, x.p = some p → PI st g S a x p
  kn : x.kn = true → Chosen st.q g x.ln
def SafeAt (st : Sy) (g : Gh) (n : Nat) (d : Int) (v : List UInt8) : Prop :=
  ∀ c e, bLt c e n d → g.prop c e = some v ∨ ∃ X, isQ st.q false X = true ∧ ∀ j, j < st.N → X j = true → bLt c e (st.nd j).pn (st.nd j).pd ∧ ¬ g.acc j c e
structure Inv (st : Sy) (g : Gh) (S : List UInt8 → Prop) : Prop where
  used : ∀ n d v, g.prop n d = some v → Used st n d ∧ S v
  ap : ∀ a n d, g.acc a n d → ∃ v, g.prop n d = some v
  safe : ∀ n d v, g.prop n d = some v → SafeAt st g n d v
  nd : ∀ a, a < st.N → NI st g S a (st.nd a)
  lt : ∀ m ∈ st.l, LI st g m

/-- A step: nothing falls. -/
structure Stp (st : Sy) (g : Gh) (st' : Sy) (g' : Gh) : Prop where
  q : st'.q = st.q
  pn : ∀ j, j < st.N → bLe (st.nd j).pn (st.nd j).pd (st'.nd j).pn (st'.nd j).pd
  seen : ∀ j, j < st.N → (st.nd j).seen ≤ (st'.nd j).seen
  le : g.le g'
  acc : ∀ j c e, g'.acc j c e → g.acc j c e ∨ bLe (st.nd j).pn (st.nd j).pd c e
section
variable {st st' : Sy} {g g' : Gh} {S S' : List UInt8 → Prop} {a i n : Nat} {d : Int} {m : Lt} {x x' : Nd} {p : Ps} {v u : List UInt8}
theorem Stp.N (h : Stp st g st' g') : st'.N = st.N := by unfold Sy.N; rw [h.q]
theorem Used.up (h : Used st n d) (s : Stp st g st' g') : Used st' n d := by
  obtain ⟨h1, h2, h3, h4⟩ := h
  have := s.seen d.toNat (by omega)
  exact ⟨h1, h2, by rw [s.N]; exact h3, by omega⟩
theorem LI.up (h : LI st g m) (hw : m.fr < st.N) (s : Stp st g st' g') : LI st' g' m := by
  refine ⟨h.used.up s, h.k, fun hk => ?_, fun hk => ?_, fun hk => s.le.2 _ _ _ (h.k4 hk)⟩
  · obtain ⟨h1, h2, h3⟩ := h.k2 hk
    refine ⟨h1.tr (s.pn _ hw), fun v hv => ⟨(h2 v hv).1, s.le.1 _ _ _ (h2 v hv).2⟩, fun c e hc hl => ?_⟩
    rcases s.acc _ c e hc with h4 | h4
    · exact h3 c e h4 hl
    · exact (hl.not (h1.tr h4)).elim
  · obtain ⟨v, h1, h2, h3, h4, h5⟩ := h.k3 hk
    exact ⟨v, h1, h2, h3, h4, s.le.1 _ _ _ h5⟩
theorem PI.up (h : PI st g S a x p) (s : Stp st g st' g') (e1 : x'.bn = x.bn) (e2 : x'.bd = x.bd) (e3 : x'.val = x.val) (e4 : x.seen ≤ x'.seen) (hp : g.prop x.bn x.bd = none → g'.prop x.bn x.bd = none) : PI st' g' S a x' p := by
  refine ⟨by rw [e2]; exact h.bd, by rw [e1]; have := h.bn; omega, by rw [e3]; exact h.own, fun j hj hb => ?_, fun m nd hm => ?_, ?_⟩
  · rw [e1, e2]
    rw [s.N] at hj
    obtain ⟨h1, h2⟩ := h.set j hj hb
    refine ⟨h1.tr (s.pn j hj), fun c e hc hl => ?_⟩
    rcases s.acc _ c e hc with h4 | h4
    · exact h2 c e h4 hl
    · exact (hl.not (h1.tr h4)).elim
  · rw [e1, e2]
    obtain ⟨h1, h2, h3⟩ := h.mu m nd hm
    exact ⟨s.le.1 _ _ _ h1, h2, h3⟩
  · rw [e1, e2]
    rcases h.sl with ⟨h1, h2⟩ | ⟨V, X, h1, h2, h3, h4, h5, h6⟩
    · exact .inl ⟨h1, hp h2⟩
    · exact .inr ⟨V, X, h1, h2, h3, h4, s.le.1 _ _ _ h5, fun j hj hb => s.le.2 _ _ _ (h6 j (by rw [s.N] at hj; exact hj) hb)⟩
theorem Chosen.up {q : Qu} (h : Chosen q g v) (hl : g.le g') : Chosen q g' v := by
  obtain ⟨n, d, X, h1, h2, h3⟩ := h
  exact ⟨n, d, X, hl.1 _ _ _ h1, h2, fun j hj hx => hl.2 _ _ _ (h3 j hj hx)⟩
/-- A node that keeps its vote. -/
theorem NI.up (h : NI st g S a x) (s : Stp st g st' g') (ha : ∀ c e, g'.acc a c e → g.acc a c e) (hpr : x'.pn = 0 ∨ Used st' x'.pn x'.pd) (hpn : bLe x.pn x.pd x'.pn x'.pd) (e0 : x'.vt = x.vt) (hp : ∀ p, x'.p = some p → PI st' g' S a x' p) (hk : x'.kn = true → Chosen st.q g' x'.ln) : NI st' g' S a x' := by
  refine ⟨hpr, ?_, fun c e hc => (h.ac c e (ha c e hc)).tr hpn, hp, fun e => by rw [s.q]; exact hk e⟩
  rw [e0]
  rcases h.vt with ⟨h1, h2, h3, h4⟩ | ⟨h1, h2, h3, h4⟩
  · exact .inl ⟨h1, h2, h3, fun c e hc => h4 c e (ha c e hc)⟩
  · exact .inr ⟨h1, s.le.2 _ _ _ h2, s.le.1 _ _ _ h3, fun c e hc => h4 c e (ha c e hc)⟩
theorem NI.same (h : NI st g S a x) (s : Stp st g st' g') (ha : ∀ c e, g'.acc a c e → g.acc a c e) (hp : ∀ n, g.prop n (a : Int) = none → g'.prop n (a : Int) = none) : NI st' g' S a x :=
  h.up s ha (h.pr.imp id (fun k => k.up s)) bLe.rfl' rfl (fun p e => (h.p p e).up s rfl rfl rfl (Nat.le_refl _) (fun k => by rw [(h.p p e).bd] at k ⊢; exact hp _ k)) (fun e => (h.kn e).up s.le)
theorem SafeAt.up (h : SafeAt st g n d v) (s : Stp st g st' g') : SafeAt st' g' n d v := fun c e hl => by
  rcases h c e hl with h1 | ⟨X, h1, h2⟩
  · exact .inl (s.le.1 _ _ _ h1)
  · refine .inr ⟨X, by rw [s.q]; exact h1, fun j hj hx => ?_⟩
    rw [s.N] at hj
    obtain ⟨h3, h4⟩ := h2 j hj hx
    refine ⟨h3.tr (s.pn j hj), fun hc => ?_⟩
    rcases s.acc j c e hc with h5 | h5
    · exact h4 h5
    · exact h3.not h5
theorem Inv.step (h : Inv st g S) (hw : SWf st) (s : Stp st g st' g') (i : Nat) (hnd : ∀ a, a < st.N → a ≠ i → st'.nd a = st.nd a) (hacc : ∀ a, a ≠ i → ∀ c e, g'.acc a c e → g.acc a c e)
    (hprop : ∀ n d, g.prop n d = none → d ≠ (i : Int) → g'.prop n d = none) (hi : i < st.N → NI st' g' S i (st'.nd i)) (hl : ∀ m ∈ st'.l, m ∈ st.l ∨ LI st' g' m)
    (hused : ∀ n d v, g'.prop n d = some v → g.prop n d = some v ∨ (Used st' n d ∧ S v ∧ SafeAt st' g' n d v)) (hap : ∀ a n d, g'.acc a n d → g.acc a n d ∨ ∃ v, g'.prop n d = some v) : Inv st' g' S := by
  refine ⟨fun n d v hv => ?_, fun a n d ha => ?_, fun n d v hv => ?_, fun a ha => ?_, fun m hm => ?_⟩
  · rcases hused n d v hv with h1 | h1
    · exact ⟨(h.used n d v h1).1.up s, (h.used n d v h1).2⟩
    · exact ⟨h1.1, h1.2.1⟩
  · rcases hap a n d ha with h1 | h1
    · obtain ⟨v, hv⟩ := h.ap a n d h1
      exact ⟨v, s.le.1 _ _ _ hv⟩
    · exact h1
  · rcases hused n d v hv with h1 | h1
    · exact (h.safe n d v h1).up s
    · exact h1.2.2
  · rw [s.N] at ha
    by_cases hai : a = i
    · subst hai; exact hi ha
    · rw [hnd a ha hai]
      exact (h.nd a ha).same s (hacc a hai) (fun n hn => hprop n _ hn (by omega))
  · rcases hl m hm with h1 | h1
    · exact (h.lt m h1).up (hw.lt m h1).fr s
    · exact h1
theorem Inv.mono (h : Inv st g S) (hS : ∀ v, S v → S' v) : Inv st g S' :=
  ⟨fun n d v hv => ⟨(h.used n d v hv).1, hS v (h.used n d v hv).2⟩, h.ap, h.safe, fun a ha => ⟨(h.nd a ha).pr, (h.nd a ha).vt, (h.nd a ha).ac, fun p hp => ⟨((h.nd a ha).p p hp).bd, ((h.nd a ha).p p hp).bn, hS _ ((h.nd a ha).p p hp).own, ((h.nd a ha).p p hp).set, ((h.nd a ha).p p hp).mu, ((h.nd a ha).p p hp).sl⟩, (h.nd a ha).kn⟩, h.lt⟩

theorem mem_send {y : Lt} (h : y ∈ (sendS st m).l) : y ∈ st.l ∨ y = m := by
  unfold sendS at h
  split at h
  · rcases List.mem_append.1 h with h | h
    · exact .inl h
    · exact .inr (by simpa using h)
  · exact .inl h
theorem mem_all {y : Lt} : ∀ k, y ∈ (allS st m k).l → y ∈ st.l ∨ ∃ j, j < k ∧ y = { m with dst := j }
  | 0, h => .inl h
  | k + 1, h => by
    unfold allS at h
    rcases mem_send h with h | h
    · rcases mem_all k h with h | ⟨j, hj, h⟩
      · exact .inl h
      · exact .inr ⟨j, by omega, h⟩
    · exact .inr ⟨k, by omega, h⟩
theorem upd_nd (st : Sy) (i : Nat) (x : Nd) : (st.upd i x).nd i = x := by show (if i = i then x else st.nd i) = x; rw [if_pos rfl]
theorem upd_ne (st : Sy) {i j : Nat} (x : Nd) (h : j ≠ i) : (st.upd i x).nd j = st.nd j := by show (if j = i then x else st.nd j) = _; rw [if_neg h]
/-- A node turned, and letters came. -/
theorem Stp.upd (st : Sy) (g g' : Gh) (i : Nat) (hq : st'.q = st.q) (hnd : st'.nd = (st.upd i x').nd) (hpn : bLe (st.nd i).pn (st.nd i).pd x'.pn x'.pd) (hse : (st.nd i).seen ≤ x'.seen) (le : g.le g') (acc : ∀ j c e, g'.acc j c e → g.acc j c e ∨ bLe (st.nd j).pn (st.nd j).pd c e) : Stp st g st' g' := by
  refine ⟨hq, fun j _ => ?_, fun j _ => ?_, le, acc⟩
  · rw [hnd]
    by_cases hj : j = i
    · subst hj; rw [upd_nd]; exact hpn
    · rw [upd_ne st x' hj]; exact bLe.rfl'
  · rw [hnd]
    by_cases hj : j = i
    · subst hj; rw [upd_nd]; exact hse
    · rw [upd_ne st x' hj]; exact Nat.le_refl _
/-- A node turned, nothing was proposed or voted for. -/
theorem Inv.quiet (h : Inv st g S) (hw : SWf st) (i : Nat) (hq : st'.q = st.q) (hnd : st'.nd = (st.upd i x').nd) (hpn : bLe (st.nd i).pn (st.nd i).pd x'.pn x'.pd) (hse : (st.nd i).seen ≤ x'.seen)
    (hi : Stp st g st' g → i < st.N → NI st' g S i x') (hl : Stp st g st' g → ∀ m ∈ st'.l, m ∈ st.l ∨ LI st' g m) : Inv st' g S := by
  have s : Stp st g st' g := Stp.upd st g g i hq hnd hpn hse g.le_refl (fun _ _ _ h => .inl h)
  exact h.step hw s i (fun a _ ha => by rw [hnd, upd_ne st x' ha]) (fun _ _ _ _ h => h) (fun _ _ h _ => h) (fun hiN => by rw [hnd, upd_nd]; exact hi s hiN) (hl s) (fun _ _ _ h => .inl h) (fun _ _ _ h => .inl h)

theorem Inv.crash (h : Inv st g S) (hw : SWf st) (a : Int) : Inv (crashS st a) g S := by
  unfold crashS
  split
  · refine h.quiet hw a.toNat rfl (x' := crashN (st.nd a.toNat)) rfl bLe.rfl' (Nat.le_refl _) (fun s hi => ?_) (fun _ m hm => .inl hm)
    have hn := h.nd a.toNat hi
    exact hn.up s (fun _ _ h => h) (hn.pr.imp id (fun k => k.up s)) bLe.rfl' rfl (fun p hp => by cases hp) (fun hk => by cases hk)
  · exact h
theorem Inv.sub (h : Inv st g S) (hq : st'.q = st.q) (hnd : st'.nd = st.nd) (hl : ∀ m ∈ st'.l, m ∈ st.l ∨ LI st g m) : Inv st' g S := by
  obtain ⟨q, nd, l⟩ := st
  obtain ⟨q', nd', l'⟩ := st'
  subst hq hnd
  refine ⟨h.used, h.ap, h.safe, fun a ha => ⟨(h.nd a ha).pr, (h.nd a ha).vt, (h.nd a ha).ac, fun p hp => ⟨((h.nd a ha).p p hp).bd, ((h.nd a ha).p p hp).bn, ((h.nd a ha).p p hp).own, ((h.nd a ha).p p hp).set, ((h.nd a ha).p p hp).mu, ((h.nd a ha).p p hp).sl⟩, (h.nd a ha).kn⟩, fun m hm => ?_⟩
  have h1 : LI ⟨q', nd', l⟩ g m := (hl m hm).elim (h.lt m) id
  exact ⟨h1.used, h1.k, h1.k2, h1.k3, h1.k4⟩
theorem Inv.cut (h : Inv st g S) (k : Nat) : Inv (st.cut k) g S := h.sub rfl rfl fun _ hm => .inl (List.mem_of_mem_eraseIdx hm)
theorem Inv.send (h : Inv st g S) (hm : LI st g m) : Inv (sendS st m) g S := h.sub (sendS_q _ _) (sendS_nd _ _) fun _ hy => (mem_send hy).elim .inl (fun e => .inr (e ▸ hm))
theorem Inv.twice (h : Inv st g S) (a : Int) : Inv (twicS st a) g S := by
  unfold twicS
  split
  · rename_i m hm
    refine h.send (h.lt m ?_)
    unfold Sy.atL at hm
    split at hm
    · exact List.mem_of_getElem? hm
    · cases hm
  · exact h
theorem Inv.drop (h : Inv st g S) (a : Int) : Inv (dropS st a) g S := by
  unfold dropS
  split
  · exact h.cut _
  · exact h

theorem Inv.start (h : Inv st g S) (hw : SWf st) (a : Int) (hv : v.length ≤ 100 → S v) : Inv (startS st a v) g S := by
  unfold startS
  split
  · rename_i hE
    unfold startE at hE
    split at hE
    · rename_i ha
      obtain ⟨h1, h2, h3⟩ := hw.n12
      have haN : a.toNat < st.N := by omega
      have hfresh : ∀ u, g.prop ((st.nd a.toNat).seen + 1) (a.toNat : Int) ≠ some u := fun u hu => by
        obtain ⟨⟨_, _, _, h4⟩, _⟩ := h.used _ _ _ hu
        rw [Int.toNat_natCast] at h4
        omega
      refine h.quiet hw a.toNat (allS_q _ _ _) (x' := startN st a.toNat v) (allS_nd _ _ _) bLe.rfl' (Nat.le_succ _) (fun s hi => ?_) (fun s y hy => ?_)
      · have hn := h.nd a.toNat hi
        refine hn.up s (fun _ _ h => h) (hn.pr.imp id (fun k => k.up s)) bLe.rfl' rfl (fun p hp => ?_) (fun hk => (hn.kn hk).up s.le)
        have hp : some (newP st.q ((st.nd a.toNat).seen + 1) (a.toNat : Int) 1) = some p := hp
        injection hp with hp
        subst hp
        refine ⟨rfl, ⟨Nat.succ_le_succ (Nat.zero_le _), Nat.le_refl _⟩, hv ha.2.2, fun j _ hb => ?_, fun m nd hm => (by cases hm), .inl ⟨rfl, ?_⟩⟩
        · have hb : (0 : Nat).testBit j = true := hb
          simp at hb
        · show g.prop ((st.nd a.toNat).seen + 1) (a.toNat : Int) = none
          cases hc : g.prop ((st.nd a.toNat).seen + 1) (a.toNat : Int) with
          | none => rfl
          | some u => exact absurd hc (hfresh u)
      · rcases mem_all _ hy with hy | ⟨j, _, rfl⟩
        · exact .inl hy
        · refine .inr ⟨?_, .inl rfl, fun e => (by cases e), fun e => (by cases e), fun e => (by cases e)⟩
          refine ⟨Nat.succ_le_succ (Nat.zero_le _), by show (0 : Int) ≤ (a.toNat : Int); omega, ?_, ?_⟩
          · rw [s.N]; show (a.toNat : Int) < (st.N : Int); omega
          · show (st.nd a.toNat).seen + 1 ≤ ((allS _ _ _).nd (a.toNat : Int).toNat).seen
            rw [allS_nd, Int.toNat_natCast, upd_nd]
            exact Nat.le_refl _
    · omega
  · exact h

/-- A letter's ballot is met. -/
theorem Inv.prep (h : Inv st g S) (hw : SWf st) (hL : LI st g m) (hm : LWf st.N m) : Inv (prepS st m) g S := by
  unfold prepS
  have hn := h.nd m.dst hm.dst
  have hse : (st.nd m.dst).seen ≤ max (st.nd m.dst).seen m.n := by omega
  split
  · refine h.quiet hw m.dst rfl (x' := seesN (st.nd m.dst) m) rfl bLe.rfl' hse (fun s hi => ?_) (fun _ y hy => .inl hy)
    exact hn.up s (fun _ _ h => h) (hn.pr.imp id (fun k => k.up s)) bLe.rfl' rfl (fun p hp => (hn.p p hp).up s rfl rfl rfl hse (fun h => h)) (fun hk => (hn.kn hk).up s.le)
  · rename_i hlb
    have hle := less_no (Bool.eq_false_iff.2 hlb)
    refine h.quiet hw m.dst (sendS_q _ _) (x' := bindN (st.nd m.dst) m) (sendS_nd _ _) hle hse (fun s hi => ?_) (fun s y hy => ?_)
    · exact hn.up s (fun _ _ h => h) (.inr (hL.used.up s)) hle rfl (fun p hp => (hn.p p hp).up s rfl rfl rfl hse (fun h => h)) (fun hk => (hn.kn hk).up s.le)
    · rcases mem_send hy with hy | rfl
      · exact .inl hy
      · refine .inr ⟨hL.used.up s, .inr (.inl rfl), fun _ => ⟨?_, fun v hv => ?_, fun c e hc _ => ?_⟩, fun e => (by cases e), fun e => (by cases e)⟩
        · show bLe m.n m.d ((sendS _ _).nd m.dst).pn ((sendS _ _).nd m.dst).pd
          rw [sendS_nd, upd_nd]
          exact bLe.rfl'
        · have hv : v ∈ backV (st.nd m.dst) := hv
          unfold backV at hv
          split at hv
          · have : v = (st.nd m.dst).vt := by simpa using hv
            subst this
            rcases hn.vt with ⟨h1, _⟩ | ⟨h1, _, h2, _⟩
            · omega
            · exact ⟨h1, h2⟩
          · simp at hv
        · rcases hn.vt with ⟨_, _, _, h1⟩ | ⟨h1, _, _, h2⟩
          · exact (h1 c e hc).elim
          · refine ⟨(st.nd m.dst).vt, ?_, h2 c e hc⟩
            show _ ∈ backV (st.nd m.dst)
            unfold backV
            rw [if_pos (by omega)]
            simp
theorem Inv.acpt (h : Inv st g S) (hw : SWf st) (hL : LI st g m) (hm : LWf st.N m) (hk : m.k = 3) : ∃ g', Inv (acptS st m) g' S ∧ g.le g' := by
  unfold acptS
  have hn := h.nd m.dst hm.dst
  have hse : (st.nd m.dst).seen ≤ max (st.nd m.dst).seen m.n := by omega
  split
  · refine ⟨g, h.quiet hw m.dst rfl (x' := seesN (st.nd m.dst) m) rfl bLe.rfl' hse (fun s hi => ?_) (fun _ y hy => .inl hy), g.le_refl⟩
    exact hn.up s (fun _ _ h => h) (hn.pr.imp id (fun k => k.up s)) bLe.rfl' rfl (fun p hp => (hn.p p hp).up s rfl rfl rfl hse (fun h => h)) (fun hk => (hn.kn hk).up s.le)
  · rename_i hlb
    have hle := less_no (Bool.eq_false_iff.2 hlb)
    obtain ⟨v, hv, v1, v2, v3, v4⟩ := hL.k3 hk
    have hvt : (voteN (st.nd m.dst) m).vt = v := by show m.vs.headD zeroV = v; rw [hv]; rfl
    let g' : Gh := ⟨g.prop, fun a n d => g.acc a n d ∨ (a = m.dst ∧ n = m.n ∧ d = m.d)⟩
    have hg : g.le g' := ⟨fun _ _ _ h => h, fun _ _ _ h => .inl h⟩
    have s : Stp st g (sendS (st.upd m.dst (voteN (st.nd m.dst) m)) ⟨4, m.dst, m.fr, m.n, m.d, []⟩) g' := Stp.upd st g g' m.dst (x' := voteN (st.nd m.dst) m) (sendS_q _ _) (sendS_nd _ _) hle hse hg (fun j c e hc => by
      rcases hc with hc | ⟨rfl, rfl, rfl⟩
      · exact .inl hc
      · exact .inr hle)
    refine ⟨g', h.step hw s m.dst (fun a _ ha => by rw [sendS_nd, upd_ne st _ ha]) (fun a ha c e hc => ?_) (fun _ _ h _ => h) (fun hi => ?_) (fun y hy => ?_) (fun _ _ _ h => .inl h) (fun a n d hc => ?_), hg⟩
    · rcases hc with hc | ⟨e, _⟩
      · exact hc
      · exact absurd e ha
    · rw [sendS_nd, upd_nd]
      refine ⟨.inr (hL.used.up s), .inr ?_, fun c e hc => ?_, fun p hp => (hn.p p hp).up s rfl rfl rfl hse (fun h => h), fun e => by rw [s.q]; exact (hn.kn e).up hg⟩
      · rw [hvt, v2, v3]
        refine ⟨v1, .inr ⟨rfl, rfl, rfl⟩, v4, fun c e hc => ?_⟩
        rcases hc with hc | ⟨_, rfl, rfl⟩
        · exact (hn.ac c e hc).tr hle
        · exact bLe.rfl'
      · rcases hc with hc | ⟨_, rfl, rfl⟩
        · exact (hn.ac c e hc).tr hle
        · exact bLe.rfl'
    · rcases mem_send hy with hy | rfl
      · exact .inl hy
      · exact .inr ⟨hL.used.up s, .inr (.inr (.inr rfl)), fun e => (by cases e), fun e => (by cases e), fun _ => .inr ⟨rfl, rfl, rfl⟩⟩
    · rcases hc with hc | ⟨_, rfl, rfl⟩
      · exact .inl hc
      · exact .inr ⟨v.v, v4⟩
end
end Go.Proofs.Ytkpfgoalohbfeaa
