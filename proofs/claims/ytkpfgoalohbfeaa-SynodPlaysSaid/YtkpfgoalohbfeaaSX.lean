/- The plain law over acts. -/
import Derived.Test.YtkpfgoalohbfeaaSL
import Derived.Test.YtkpfgoalohbfeaaSR
import Derived.Test.YtkpfgoalohbfeaaSP
namespace Go.Proofs.Ytkpfgoalohbfeaa

/-- What goes one way: the system stays, no promised ballot falls. -/
structure Gone (st st' : Sy) : Prop where
  q : st'.q = st.q
  pn : ∀ j, bLe (st.nd j).pn (st.nd j).pd (st'.nd j).pn (st'.nd j).pd
section
variable {st st' st2 : Sy} {g g' : Gh} {S S' : List UInt8 → Prop} {a i n : Nat} {d : Int} {m : Lt} {x x' : Nd} {p : Ps} {v u : List UInt8}
theorem Gone.N (h : Gone st st') : st'.N = st.N := by unfold Sy.N; rw [h.q]
theorem Gone.refl (st : Sy) : Gone st st := ⟨rfl, fun _ => bLe.rfl'⟩
theorem Gone.tr (h : Gone st st') (k : Gone st' st2) : Gone st st2 := ⟨k.q.trans h.q, fun j => (h.pn j).tr (k.pn j)⟩
theorem Gone.of (hq : st'.q = st.q) (hnd : st'.nd = st.nd) : Gone st st' := ⟨hq, fun j => by rw [hnd]; exact bLe.rfl'⟩
theorem Gone.at (i : Nat) (hq : st'.q = st.q) (hnd : st'.nd = (st.upd i x').nd) (hp : bLe (st.nd i).pn (st.nd i).pd x'.pn x'.pd) : Gone st st' := ⟨hq, fun j => by
  rw [hnd]
  by_cases h : j = i
  · subst h; rw [upd_nd]; exact hp
  · rw [upd_ne st _ h]; exact bLe.rfl'⟩
/-- A node that knows goes on to know. -/
def Kn (st st' : Sy) (j : Nat) : Prop := (st.nd j).kn = true → (st'.nd j).kn = true
theorem Kn.of (hnd : st'.nd = st.nd) (j : Nat) : Kn st st' j := fun h => by rw [hnd]; exact h
theorem Kn.at (i : Nat) (hnd : st'.nd = (st.upd i x').nd) (hp : (st.nd i).kn = true → x'.kn = true) (j : Nat) : Kn st st' j := fun hk => by
  rw [hnd]
  by_cases h : j = i
  · subst h; rw [upd_nd]; exact hp hk
  · rw [upd_ne st _ h]; exact hk
theorem prep_go (st : Sy) (m : Lt) : Gone st (prepS st m) ∧ ∀ j, Kn st (prepS st m) j := by
  unfold prepS
  split
  · exact ⟨Gone.at m.dst rfl rfl bLe.rfl', Kn.at m.dst rfl id⟩
  · rename_i hl
    exact ⟨Gone.at m.dst (sendS_q _ _) (sendS_nd _ _) (less_no (Bool.not_eq_true _ ▸ hl)), Kn.at m.dst (sendS_nd _ _) id⟩
theorem acpt_go (st : Sy) (m : Lt) : Gone st (acptS st m) ∧ ∀ j, Kn st (acptS st m) j := by
  unfold acptS
  split
  · exact ⟨Gone.at m.dst rfl rfl bLe.rfl', Kn.at m.dst rfl id⟩
  · rename_i hl
    exact ⟨Gone.at m.dst (sendS_q _ _) (sendS_nd _ _) (less_no (Bool.not_eq_true _ ▸ hl)), Kn.at m.dst (sendS_nd _ _) id⟩
theorem prom_go (st : Sy) (m : Lt) : Gone st (promS st m) ∧ ∀ j, Kn st (promS st m) j := by
  unfold promS
  cases (st.nd m.dst).p with
  | none => exact ⟨Gone.refl _, fun _ h => h⟩
  | some p =>
    simp only
    split
    · split
      · exact ⟨Gone.at m.dst (allS_q _ _ _) (allS_nd _ _ _) bLe.rfl', Kn.at m.dst (allS_nd _ _ _) id⟩
      · exact ⟨Gone.at m.dst rfl rfl bLe.rfl', Kn.at m.dst rfl id⟩
    · exact ⟨Gone.refl _, fun _ h => h⟩
theorem acd_go (st : Sy) (m : Lt) : Gone st (acdS st m) ∧ ∀ j, Kn st (acdS st m) j := by
  unfold acdS
  cases (st.nd m.dst).p with
  | none => exact ⟨Gone.refl _, fun _ h => h⟩
  | some p =>
    simp only
    split
    · cases chB (accP p m.fr 1) 1 with
      | none => exact ⟨Gone.at m.dst rfl rfl bLe.rfl', Kn.at m.dst rfl id⟩
      | some v => exact ⟨Gone.at m.dst rfl rfl bLe.rfl', Kn.at m.dst rfl fun _ => rfl⟩
    · exact ⟨Gone.refl _, fun _ h => h⟩
theorem arr_go (st : Sy) (m : Lt) : Gone st (arrS st m) ∧ ∀ j, Kn st (arrS st m) j := by
  unfold arrS
  split
  · exact prep_go st m
  · split
    · exact prom_go st m
    · split
      · exact acpt_go st m
      · exact acd_go st m
theorem take_go (st : Sy) (a : Int) : Gone st (takeS st a) ∧ ∀ j, Kn st (takeS st a) j := by
  unfold takeS
  cases st.atL a with
  | none => exact ⟨Gone.refl _, fun _ h => h⟩
  | some m =>
    have h := arr_go (st.cut a.toNat) m
    exact ⟨⟨h.1.q, h.1.pn⟩, h.2⟩
theorem drop_go (st : Sy) (a : Int) : Gone st (dropS st a) ∧ ∀ j, Kn st (dropS st a) j := by
  unfold dropS
  cases st.atL a with
  | none => exact ⟨Gone.refl _, fun _ h => h⟩
  | some m => exact ⟨Gone.of rfl rfl, Kn.of rfl⟩
theorem twic_go (st : Sy) (a : Int) : Gone st (twicS st a) ∧ ∀ j, Kn st (twicS st a) j := by
  unfold twicS
  cases st.atL a with
  | none => exact ⟨Gone.refl _, fun _ h => h⟩
  | some m => exact ⟨Gone.of (sendS_q _ _) (sendS_nd _ _), Kn.of (sendS_nd _ _)⟩
theorem start_go (st : Sy) (a : Int) (v : List UInt8) : Gone st (startS st a v) ∧ ∀ j, Kn st (startS st a v) j := by
  unfold startS
  split
  · exact ⟨Gone.at a.toNat (allS_q _ _ _) (allS_nd _ _ _) bLe.rfl', Kn.at a.toNat (allS_nd _ _ _) id⟩
  · exact ⟨Gone.refl _, fun _ h => h⟩
theorem crash_go (st : Sy) (a : Nat) : Gone st (crashS st (a : Int)) ∧ ∀ j, j ≠ a → Kn st (crashS st (a : Int)) j := by
  unfold crashS
  split
  · exact ⟨Gone.at (a : Int).toNat rfl rfl bLe.rfl', fun j hj hk => by
      have : (((st.upd (a : Int).toNat (crashN (st.nd (a : Int).toNat))).nd j)) = st.nd j := upd_ne st _ (by rw [Int.toNat_natCast]; exact hj)
      rw [this]; exact hk⟩
  · exact ⟨Gone.refl _, fun _ _ h => h⟩
theorem tk0_go (st : Sy) : ∀ k, Gone st (tk0 st k) ∧ ∀ j, Kn st (tk0 st k) j
  | 0 => ⟨Gone.refl _, fun _ h => h⟩
  | k + 1 => by
    have h := tk0_go st k
    have h2 := take_go (tk0 st k) 0
    exact ⟨h.1.tr h2.1, fun j hj => h2.2 j (h.2 j hj)⟩
theorem act_go (st : Sy) (x : Ac) : Gone st (actS st x) ∧ ∀ j, (x.k = 7 → j ≠ atI x.a st.N) → Kn st (actS st x) j := by
  unfold actS
  split
  · have h := start_go st (atI x.a st.N) x.v; exact ⟨h.1, fun j _ => h.2 j⟩
  · split
    · have h := take_go st (atI x.a st.l.length); exact ⟨h.1, fun j _ => h.2 j⟩
    · split
      · have h := drop_go st (atI x.a st.l.length); exact ⟨h.1, fun j _ => h.2 j⟩
      · split
        · have h := twic_go st (atI x.a st.l.length); exact ⟨h.1, fun j _ => h.2 j⟩
        · split
          · rename_i h7
            have h := crash_go st (atI x.a st.N); exact ⟨h.1, fun j hj => h.2 j (hj h7)⟩
          · have h := tk0_go st 60; exact ⟨h.1, fun j _ => h.2 j⟩

theorem SWf.prom (h : Inv st g S) (hS : ∀ v, S v → v.length ≤ 100) (hw : SWf st) (hL : LI st g m) (hm : LWf st.N m) (hk : m.k = 2) : SWf (promS st m) := by
  unfold promS
  have hn := h.nd m.dst hm.dst
  have hwn := hw.nd m.dst hm.dst
  cases hp : (st.nd m.dst).p with
  | none => exact hw
  | some p =>
    simp only
    by_cases hc : sameB (st.nd m.dst) m = true ∧ readyB p = false
    · rw [if_pos hc]
      obtain ⟨e1, e2⟩ := sameB_iff.1 hc.1
      obtain ⟨w1, w2, w3, w4⟩ := hwn.p p hp
      have hP := (hn.p p hp).prm w2 w3 hL hm hk e1 e2
      have q1 : (prmP p m.fr m.vs).q = p.q := prmP_q _ _ _
      have q2 := prmP_nd p m.fr m.vs
      have q3 : (prmP p m.fr m.vs).f = p.f := prmP_f _ _ _
      generalize prmP p m.fr m.vs = p1 at hP q1 q2 q3
      by_cases hr : readyB p1 = true
      · rw [if_pos hr]
        have hx : NWf st.q { st.nd m.dst with p := some (proP p1 1 (st.nd m.dst).val) } :=
          hwn.setP hp ((proP_q _ _ _).trans q1) ⟨(proP_n _ _ _).1.trans q2.1, (proP_n _ _ _).2.trans q2.2⟩ ((proP_f _ _ _).trans q3)
        have hV : VWf (proV p1 1 (st.nd m.dst).val) := by
          unfold proV
          split
          · rcases hP.sl with ⟨s1, s2⟩ | ⟨V, X, s1, s2, s3, s4, s5, s6⟩
            · rw [s1]
              refine ⟨Nat.le_refl _, ?_, ?_, ?_, hS _ (hP.safe h (q1.trans w1) hr).2⟩
              · show p1.n ≤ lastN; rw [q2.1, w2]; exact hwn.bn
              · show 0 ≤ p1.d; rw [q2.2, w3]; exact hwn.bd0
              · show p1.d < 12; rw [q2.2, w3]; exact hwn.bd1
            · rw [s1]
              refine ⟨by show V.s ≤ 1; omega, ?_, ?_, ?_, hS _ (h.used _ _ _ s5).2⟩
              · show V.n ≤ lastN; rw [s3]; exact hwn.bn
              · show 0 ≤ V.d; rw [s4]; exact hwn.bd0
              · show V.d < 12; rw [s4]; exact hwn.bd1
          · exact zeroV_wf
        refine SWf.all (hw.upd hx) (fun i hi => ⟨hm.dst, hi, hwn.bn, hwn.bd0, hwn.bd1, Nat.le_refl _, fun v hv => ?_, fun _ h => by cases h⟩) _ (Nat.le_refl _)
        have hv := List.mem_singleton.1 hv
        subst hv; exact hV
      · rw [if_neg hr]
        exact hw.upd (hwn.setP hp q1 q2 q3)
    · rw [if_neg hc]; exact hw
theorem SWf.acd (h : Inv st g S) (hS : ∀ v, S v → v.length ≤ 100) (hw : SWf st) (hL : LI st g m) (hm : LWf st.N m) (hk : m.k = 4) : SWf (acdS st m) := by
  unfold acdS
  have hn := h.nd m.dst hm.dst
  have hwn := hw.nd m.dst hm.dst
  cases hp : (st.nd m.dst).p with
  | none => exact hw
  | some p =>
    simp only
    by_cases hc : sameB (st.nd m.dst) m = true
    · rw [if_pos hc]
      obtain ⟨e1, e2⟩ := sameB_iff.1 hc
      have hP := (hn.p p hp).acc (i := m.fr) (by rw [e1, e2]; exact hL.k4 hk)
      have hx : NWf st.q { st.nd m.dst with p := some (accP p m.fr 1) } := hwn.setP hp (accP_q _ _ _) (accP_n _ _ _) (accP_f _ _ _)
      have q1 : (accP p m.fr 1).q = st.q := (accP_q _ _ _).trans (hwn.p p hp).1
      generalize accP p m.fr 1 = p1 at hP q1 hx
      cases hch : chB p1 1 with
      | none => exact hw.upd hx
      | some v =>
        obtain ⟨n, d, X, c1, c2, c3⟩ := hP.ch q1 hch
        exact hw.upd ⟨hx.pn, hx.pd0, hx.pd1, hx.vt, hx.seen, hx.bn, hx.bd0, hx.bd1, hx.val, hS _ (h.used _ _ _ c1).2, hx.p⟩
    · rw [if_neg hc]; exact hw
/-- What is kept from act to act. -/
structure Kp (st : Sy) (g : Gh) (S : List UInt8 → Prop) : Prop where
  inv : Inv st g S
  wf : SWf st
theorem Kp.take (h : Kp st g S) (hS : ∀ v, S v → v.length ≤ 100) (a : Int) : ∃ g', Kp (takeS st a) g' S ∧ g.le g' := by
  obtain ⟨g', hI, hl⟩ := h.inv.take h.wf a
  refine ⟨g', ⟨hI, ?_⟩, hl⟩
  unfold takeS
  cases hm : st.atL a with
  | none => exact h.wf
  | some m =>
    simp only
    have hin : m ∈ st.l := by
      unfold Sy.atL at hm
      split at hm
      · exact List.mem_of_getElem? hm
      · cases hm
    have hL := (h.inv.lt m hin).cut a.toNat
    have hc := h.inv.cut a.toNat
    have hwc := h.wf.cut a.toNat
    have hlm : LWf (st.cut a.toNat).N m := h.wf.lt m hin
    unfold arrS
    by_cases k1 : m.k = 1
    · rw [if_pos k1]; exact hwc.prep hlm
    · rw [if_neg k1]
      by_cases k2 : m.k = 2
      · rw [if_pos k2]; exact SWf.prom hc hS hwc hL hlm k2
      · rw [if_neg k2]
        by_cases k3 : m.k = 3
        · rw [if_pos k3]; exact hwc.acpt hlm
        · rw [if_neg k3]
          refine SWf.acd hc hS hwc hL hlm ?_
          rcases hL.k with h | h | h | h
          · exact absurd h k1
          · exact absurd h k2
          · exact absurd h k3
          · exact h
theorem SWf.twic (h : SWf st) (a : Int) : SWf (twicS st a) := by
  unfold twicS
  cases hm : st.atL a with
  | none => exact h
  | some m => exact h.send (h.cut_at hm)
theorem SWf.drop (h : SWf st) (a : Int) : SWf (dropS st a) := by
  unfold dropS
  cases hm : st.atL a with
  | none => exact h
  | some m => exact h.cut _
theorem Kp.drop (h : Kp st g S) (a : Int) : Kp (dropS st a) g S := ⟨h.inv.drop a, h.wf.drop a⟩
theorem Kp.twice (h : Kp st g S) (a : Int) : Kp (twicS st a) g S := ⟨h.inv.twice a, h.wf.twic a⟩
theorem Kp.crash (h : Kp st g S) (a : Int) : Kp (crashS st a) g S := ⟨h.inv.crash h.wf a, h.wf.crash a⟩
theorem Kp.start (h : Kp st g S) (a : Int) (hv : v.length ≤ 100 → S v) : Kp (startS st a v) g S := ⟨h.inv.start h.wf a hv, h.wf.start a⟩
theorem Kp.tk0 (h : Kp st g S) (hS : ∀ v, S v → v.length ≤ 100) : ∀ k, ∃ g', Kp (Go.Proofs.Ytkpfgoalohbfeaa.tk0 st k) g' S ∧ g.le g'
  | 0 => ⟨g, h, g.le_refl⟩
  | k + 1 => by
    obtain ⟨g', h1, h2⟩ := h.tk0 hS k
    obtain ⟨g2, h3, h4⟩ := h1.take hS 0
    exact ⟨g2, h3, Gh.le_tr h2 h4⟩
theorem Kp.act (h : Kp st g S) (hS : ∀ v, S v → v.length ≤ 100) (x : Ac) (hx : x.k = 0 → x.v.length ≤ 100 → S x.v) : ∃ g', Kp (actS st x) g' S ∧ g.le g' := by
  unfold actS
  split
  · rename_i h0; exact ⟨g, h.start _ (hx h0), g.le_refl⟩
  · split
    · exact h.take hS _
    · split
      · exact ⟨g, h.drop _, g.le_refl⟩
      · split
        · exact ⟨g, h.twice _, g.le_refl⟩
        · split
          · exact ⟨g, h.crash _, g.le_refl⟩
          · exact h.tk0 hS 60
def gh0 : Gh := ⟨fun _ _ => none, fun _ _ _ => False⟩
theorem Kp.new {q : Qu} (hq : rightE q = 0) (hl : q.s.length ≤ 1000) (S : List UInt8 → Prop) : Kp (room0 q) gh0 S := by
  refine ⟨⟨fun _ _ _ h => (by cases h), fun _ _ _ h => h.elim, fun _ _ _ h => (by cases h), fun a _ => ?_, fun m hm => (by cases hm)⟩, room0_wf hq hl⟩
  exact ⟨.inl rfl, .inl ⟨rfl, rfl, rfl, fun _ _ h => h⟩, fun _ _ h => h.elim, fun p hp => (by cases hp), fun h => (by cases h)⟩
/-- What a node says that it has learned is chosen. -/
theorem Kp.lrn (h : Kp st g S) {k : Nat} (hv : lrnB st (k : Int) = some v) : Chosen st.q g v := by
  unfold lrnB at hv
  split at hv
  · rename_i hc
    injection hv with hv
    subst hv
    obtain ⟨i, hi, hlt⟩ := inSy_nat h.wf hc.1
    obtain rfl : k = i := by omega
    have hc2 := hc.2
    rw [Int.toNat_natCast] at hc2 ⊢
    exact (h.inv.nd k hlt).kn hc2
  · cases hv
end
end Go.Proofs.Ytkpfgoalohbfeaa
