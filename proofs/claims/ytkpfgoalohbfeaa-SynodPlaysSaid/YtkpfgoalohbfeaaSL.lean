/- Paxos' law of the room: promises, votes told; one value. -/
import Derived.Test.YtkpfgoalohbfeaaSV
import Derived.Test.YtkpfgoalohbfeaaSH
namespace Go.Proofs.Ytkpfgoalohbfeaa

theorem putM_1 (x : Int) (mu : Nat → Option (Vt × Int)) (v : Vt) (hv : v.s = 1) : ∃ m nd, putM x mu v 1 = some (m, nd) ∧ bLe v.n v.d m.n m.d ∧ (∀ m0 nd0, mu 1 = some (m0, nd0) → bLe m0.n m0.d m.n m.d) ∧ (m = v ∨ mu 1 = some (m, nd)) := by
  have hu : upd mu v.s (v, x) 1 = some (v, x) := by unfold Go.Proofs.Ytkpfgoalohbfeaa.upd; rw [hv]; rfl
  unfold putM
  rw [hv]
  rw [hv] at hu
  cases hm : mu 1 with
  | none => exact ⟨v, x, hu, bLe.rfl', fun m0 nd0 e => by (cases e), .inl rfl⟩
  | some y =>
    obtain ⟨m0, nd0⟩ := y
    simp only
    split
    · rename_i hc
      refine ⟨m0, nd0, hm, ?_, fun m1 nd1 e => ?_, .inr rfl⟩
      · rw [Bool.or_eq_true, Bool.and_eq_true, Bool.and_eq_true, decide_eq_true_eq, decide_eq_true_eq] at hc
        rcases hc with hc | hc
        · exact (less_lt hc).le
        · unfold bLe; omega
      · injection e with e; injection e with e1 e2; subst e1; exact bLe.rfl'
    · rename_i hc
      refine ⟨v, x, hu, bLe.rfl', fun m1 nd1 e => ?_, .inl rfl⟩
      injection e with e; injection e with e1 e2; subst e1
      rw [Bool.or_eq_true, not_or] at hc
      exact less_no (Bool.eq_false_iff.2 hc.1)
section
variable {st st' : Sy} {g g' : Gh} {S S' : List UInt8 → Prop} {a i n : Nat} {d : Int} {m : Lt} {x x' : Nd} {p : Ps} {v u : List UInt8} {v' : Vt}
theorem rightV_mem {l : Nat} {vs : List Vt} (h : rightV n d l vs = true) (hv : v' ∈ vs) : bLt v'.n v'.d n d := by
  obtain ⟨i, hi⟩ := List.getElem?_of_mem hv
  exact less_lt (rightV_get _ _ _ _ h i v' hi).2.2.1
/-- A promise is put among those there are. -/
theorem PI.prm (h : PI st g S a x p) (hn : p.n = x.bn) (hd : p.d = x.bd) (hL : LI st g m) (hm : LWf st.N m) (hk : m.k = 2) (h1 : x.bn = m.n) (h2 : x.bd = m.d) : PI st g S a x (prmP p m.fr m.vs) := by
  by_cases hc : prmE p m.fr m.vs = 0 ∧ p.set.testBit (m.fr : Int).toNat = false
  · have he : prmP p m.fr m.vs = { p with set := p.set ||| 2 ^ (m.fr : Int).toNat, mu := m.vs.foldl (putM m.fr) p.mu } := by unfold prmP; rw [if_pos hc]
    obtain ⟨k1, k2, k3⟩ := hL.k2 hk
    have hlen := hm.len
    have hvw := hm.vs
    have hr : rightV p.n p.d (p.f - 1) m.vs = true := by
      have := hc.1
      unfold prmE at this
      split at this
      · split at this
        · assumption
        · omega
      · omega
    -- what has to be proposed, before and behind
    have hmu : (∀ v ∈ m.vs, ∃ mm nd, (prmP p m.fr m.vs).mu 1 = some (mm, nd) ∧ bLe v.n v.d mm.n mm.d) ∧ (∀ m0 nd0, p.mu 1 = some (m0, nd0) → ∃ mm nd, (prmP p m.fr m.vs).mu 1 = some (mm, nd) ∧ bLe m0.n m0.d mm.n mm.d) ∧
        (∀ mm nd, (prmP p m.fr m.vs).mu 1 = some (mm, nd) → mm ∈ m.vs ∨ p.mu 1 = some (mm, nd)) := by
      rw [he]
      cases hvs : m.vs with
      | nil => exact ⟨fun v hv => by simp at hv, fun m0 nd0 e => ⟨m0, nd0, e, bLe.rfl'⟩, fun mm nd e => .inr e⟩
      | cons v l =>
        have hl : l = [] := by
          rw [hvs] at hlen
          cases l with
          | nil => rfl
          | cons y l => simp at hlen
        subst hl
        obtain ⟨m', nd', e1, e2, e3, e4⟩ := putM_1 m.fr p.mu v (k2 v (by rw [hvs]; simp)).1
        refine ⟨fun u hu => ?_, fun m0 nd0 e => ⟨m', nd', e1, e3 m0 nd0 e⟩, fun mm nd e => ?_⟩
        · have : u = v := by simpa using hu
          subst this
          exact ⟨m', nd', e1, e2⟩
        · have e : putM m.fr p.mu v 1 = some (mm, nd) := e
          rw [e1] at e
          injection e with e; injection e with e5 e6
          subst e5 e6
          rcases e4 with rfl | e4
          · exact .inl (by simp)
          · exact .inr e4
    have hset : ∀ j, (prmP p m.fr m.vs).set.testBit j = true → p.set.testBit j = true ∨ j = m.fr := fun j hj => by
      rw [he] at hj
      have hj : (p.set ||| 2 ^ (m.fr : Int).toNat).testBit j = true := hj
      rw [Nat.testBit_or, Nat.testBit_two_pow, Int.toNat_natCast, Bool.or_eq_true, decide_eq_true_eq] at hj
      exact hj.imp id fun e => e.symm
    refine ⟨h.bd, h.bn, h.own, fun j hj hb => ?_, fun mm nd e => ?_, by rw [prmP_sl]; exact h.sl⟩
    · rcases hset j hb with hb | rfl
      · obtain ⟨a1, a2⟩ := h.set j hj hb
        refine ⟨a1, fun c e hc hl => ?_⟩
        obtain ⟨m0, nd0, a3, a4⟩ := a2 c e hc hl
        obtain ⟨mm, nd, a5, a6⟩ := hmu.2.1 m0 nd0 a3
        exact ⟨mm, nd, a5, a4.tr a6⟩
      · rw [h1, h2]
        refine ⟨k1, fun c e hc hl => ?_⟩
        obtain ⟨v, hv, a4⟩ := k3 c e hc hl
        obtain ⟨mm, nd, a5, a6⟩ := hmu.1 v hv
        exact ⟨mm, nd, a5, a4.tr a6⟩
    · rcases hmu.2.2 mm nd e with h3 | h3
      · refine ⟨(k2 mm h3).2, ?_, (hvw mm h3).l⟩
        have h4 := rightV_mem hr h3
        rw [hn, hd] at h4
        exact h4
      · exact h.mu mm nd h3
  · have he : prmP p m.fr m.vs = p := by unfold prmP; rw [if_neg hc]
    rw [he]; exact h
/-- What is proposed once enough have promised is safe. -/
theorem PI.safe (h : Inv st g S) (k : PI st g S a x p) (hq : p.q = st.q) (hr : readyB p = true) : SafeAt st g x.bn x.bd (proVal p 1 x.val) ∧ S (proVal p 1 x.val) := by
  unfold readyB at hr
  rw [hq] at hr
  have hall : ∀ c e, bLt c e x.bn x.bd → (∀ mm nd, p.mu 1 = some (mm, nd) → bLt mm.n mm.d c e) → ∃ X, isQ st.q false X = true ∧ ∀ j, j < st.N → X j = true → bLt c e (st.nd j).pn (st.nd j).pd ∧ ¬ g.acc j c e := fun c e hl hx =>
    ⟨_, hr, fun j hj hb => by
      obtain ⟨a1, a2⟩ := k.set j hj hb
      refine ⟨hl.tr a1, fun hc => ?_⟩
      obtain ⟨mm, nd, a3, a4⟩ := a2 c e hc hl
      exact (hx mm nd a3).not a4⟩
  unfold proVal muB
  cases hm : p.mu 1 with
  | none => exact ⟨fun c e hl => .inr (hall c e hl fun mm nd e => by rw [hm] at e; cases e), k.own⟩
  | some y =>
    obtain ⟨m0, nd0⟩ := y
    obtain ⟨a1, a2, a3⟩ := k.mu m0 nd0 hm
    refine ⟨fun c e hl => ?_, (h.used _ _ _ a1).2⟩
    rcases b3 c e m0.n m0.d with h1 | ⟨h1, h2⟩ | h1
    · exact h.safe _ _ _ a1 c e h1
    · subst h1 h2; exact .inl a1
    · exact .inr (hall c e hl fun mm nd e => by
        rw [hm] at e
        injection e with e; injection e with e5 e6
        subst e5; exact h1)
theorem Inv.prom (h : Inv st g S) (hw : SWf st) (hL : LI st g m) (hm : LWf st.N m) (hk : m.k = 2) : ∃ g', Inv (promS st m) g' S ∧ g.le g' := by
  unfold promS
  have hn := h.nd m.dst hm.dst
  have hwn := hw.nd m.dst hm.dst
  cases hp : (st.nd m.dst).p with
  | none => exact ⟨g, h, g.le_refl⟩
  | some p =>
    simp only
    by_cases hc : sameB (st.nd m.dst) m = true ∧ readyB p = false
    · rw [if_pos hc]
      obtain ⟨e1, e2⟩ := sameB_iff.1 hc.1
      obtain ⟨w1, w2, w3, w4⟩ := hwn.p p hp
      have hP := (hn.p p hp).prm w2 w3 hL hm hk e1 e2
      have q1 : (prmP p m.fr m.vs).q = st.q := (prmP_q _ _ _).trans w1
      have q2 : (prmP p m.fr m.vs).n = (st.nd m.dst).bn := (prmP_n _ _ _).trans w2
      have q3 : (prmP p m.fr m.vs).d = (st.nd m.dst).bd := (prmP_d _ _ _).trans w3
      have q4 : (prmP p m.fr m.vs).f = 1 := (prmP_f _ _ _).trans w4
      generalize prmP p m.fr m.vs = p1 at hP q1 q2 q3 q4
      by_cases hr : readyB p1 = true
      · rw [if_pos hr]
        obtain ⟨sf, sS⟩ := hP.safe h q1 hr
        have hvl : (proVal p1 1 (st.nd m.dst).val).length ≤ 100 := by
          unfold proVal muB
          cases hm1 : p1.mu 1 with
          | none => exact hwn.val
          | some y => obtain ⟨v, nd⟩ := y; exact (hP.mu v nd hm1).2.2
        have e0 : proE p1 1 (st.nd m.dst).val = 0 := by
          unfold proE
          rw [if_pos hr, q4, if_neg (by omega)]
          cases hs : p1.sl 1 with
          | none => simp only; rw [if_neg (by omega)]
          | some y => rfl
        have hbd := hP.bd
        have hbn := hP.bn
        have hN := hm.dst
        rcases hP.sl with ⟨s1, s2⟩ | ⟨V, X, s1, s2, s3, s4, s5, s6⟩
        · -- a new one
          obtain ⟨V, hV⟩ : ∃ V : Vt, V = ⟨1, p1.n, p1.d, proVal p1 1 (st.nd m.dst).val⟩ := ⟨_, rfl⟩
          have eV : proV p1 1 (st.nd m.dst).val = V := by unfold proV; rw [if_pos e0, s1, hV]
          have eP : proP p1 1 (st.nd m.dst).val = { p1 with sl := Go.Proofs.Ytkpfgoalohbfeaa.upd p1.sl 1 (V, 0) } := by unfold proP; rw [if_pos e0, s1, hV]
          have v1 : V.s = 1 := by rw [hV]
          have v2 : V.n = (st.nd m.dst).bn := by rw [hV]; exact q2
          have v3 : V.d = (st.nd m.dst).bd := by rw [hV]; exact q3
          have v4 : V.v = proVal p1 1 (st.nd m.dst).val := by rw [hV]
          rw [eV, eP]
          rw [← v4] at sf sS
          clear hV eV eP v4
          let g' : Gh := ⟨fun n d => if n = (st.nd m.dst).bn ∧ d = (st.nd m.dst).bd then some V.v else g.prop n d, g.acc⟩
          have gb : g'.prop (st.nd m.dst).bn (st.nd m.dst).bd = some V.v := if_pos ⟨rfl, rfl⟩
          have hg : g.le g' := ⟨fun n d v hv => by
            show (if n = (st.nd m.dst).bn ∧ d = (st.nd m.dst).bd then some V.v else g.prop n d) = some v
            by_cases hb : n = (st.nd m.dst).bn ∧ d = (st.nd m.dst).bd
            · rw [hb.1, hb.2, s2] at hv; cases hv
            · rw [if_neg hb]; exact hv, fun _ _ _ h => h⟩
          refine ⟨g', ?_, hg⟩
          obtain ⟨x', hx'⟩ : ∃ x' : Nd, x' = { st.nd m.dst with p := some { p1 with sl := Go.Proofs.Ytkpfgoalohbfeaa.upd p1.sl 1 (V, 0) } } := ⟨_, rfl⟩
          rw [← hx']
          have x1 : x'.pn = (st.nd m.dst).pn ∧ x'.pd = (st.nd m.dst).pd := by rw [hx']; exact ⟨rfl, rfl⟩
          have x2 : x'.seen = (st.nd m.dst).seen := by rw [hx']
          have s : Stp st g (allS (st.upd m.dst x') ⟨3, m.dst, 0, (st.nd m.dst).bn, (st.nd m.dst).bd, [V]⟩ st.N) g' :=
            Stp.upd st g g' m.dst (x' := x') (allS_q _ _ _) (allS_nd _ _ _) (by rw [x1.1, x1.2]; exact bLe.rfl') (by rw [x2]; exact Nat.le_refl _) hg (fun _ _ _ h => .inl h)
          have hus : Used (allS (st.upd m.dst x') ⟨3, m.dst, 0, (st.nd m.dst).bn, (st.nd m.dst).bd, [V]⟩ st.N) (st.nd m.dst).bn (st.nd m.dst).bd := by
            refine Used.up (st := st) ⟨hbn.1, by omega, by omega, ?_⟩ s
            rw [hbd, Int.toNat_natCast]; exact hbn.2
          refine h.step hw s m.dst (fun b _ hb => by rw [allS_nd, upd_ne st _ hb]) (fun _ _ _ _ h => h) (fun n d hd hne => ?_) (fun _ => ?_) (fun y hy => ?_) (fun n d v hv => ?_) (fun _ _ _ h => .inl h)
          · show (if n = (st.nd m.dst).bn ∧ d = (st.nd m.dst).bd then some V.v else g.prop n d) = none
            rw [if_neg (fun hb => hne (hb.2.trans hbd))]; exact hd
          · rw [allS_nd, upd_nd]
            refine hn.up s (fun _ _ h => h) (by rw [x1.1, x1.2]; exact hn.pr.imp id (fun k => k.up s)) (by rw [x1.1, x1.2]; exact bLe.rfl') (by rw [hx']) (fun p2 hp2 => ?_) (fun hkn => ?_)
            · have hp2 : p2 = { p1 with sl := Go.Proofs.Ytkpfgoalohbfeaa.upd p1.sl 1 (V, 0) } := by rw [hx'] at hp2; injection hp2 with hp2; exact hp2.symm
              have hb1 : x'.bn = (st.nd m.dst).bn := by rw [hx']
              have hb2 : x'.bd = (st.nd m.dst).bd := by rw [hx']
              have hb3 : x'.val = (st.nd m.dst).val := by rw [hx']
              subst hp2
              refine ⟨by rw [hb2]; exact hbd, by rw [hb1, x2]; exact hbn, by rw [hb3]; exact hP.own, fun j hj hb => ?_, fun mm nd e => ?_, .inr ⟨V, 0, by unfold Go.Proofs.Ytkpfgoalohbfeaa.upd; rfl, v1, by rw [hb1]; exact v2, by rw [hb2]; exact v3, by rw [hb1, hb2]; exact gb, fun j _ hb => by simp at hb⟩⟩
              · rw [hb1, hb2]
                rw [s.N] at hj
                obtain ⟨a1, a2⟩ := hP.set j hj hb
                exact ⟨a1.tr (s.pn j hj), a2⟩
              · rw [hb1, hb2]
                obtain ⟨a1, a2, a3⟩ := hP.mu mm nd e
                exact ⟨hg.1 _ _ _ a1, a2, a3⟩
            · rw [hx'] at hkn ⊢
              exact (hn.kn hkn).up hg
          · rcases mem_all _ hy with hy | ⟨j, _, rfl⟩
            · exact .inl hy
            · exact .inr ⟨hus, .inr (.inr (.inl rfl)), fun e => (by cases e), fun _ => ⟨V, rfl, v1, v2, v3, gb⟩, fun e => (by cases e)⟩
          · by_cases hb : n = (st.nd m.dst).bn ∧ d = (st.nd m.dst).bd
            · obtain ⟨rfl, rfl⟩ := hb
              rw [gb] at hv
              injection hv with hv
              subst hv
              exact .inr ⟨hus, sS, sf.up s⟩
            · have hv : (if n = (st.nd m.dst).bn ∧ d = (st.nd m.dst).bd then some V.v else g.prop n d) = some v := hv
              rw [if_neg hb] at hv
              exact .inl hv
        · -- it has been proposed
          have eV : proV p1 1 (st.nd m.dst).val = V := by unfold proV; rw [if_pos e0, s1]
          have eP : proP p1 1 (st.nd m.dst).val = p1 := by unfold proP; rw [if_pos e0, s1]
          rw [eV, eP]
          refine ⟨g, ?_, g.le_refl⟩
          refine h.quiet hw m.dst (allS_q _ _ _) (x' := { st.nd m.dst with p := some p1 }) (allS_nd _ _ _) bLe.rfl' (Nat.le_refl _) (fun s hi => ?_) (fun s y hy => ?_)
          · refine hn.up s (fun _ _ h => h) (hn.pr.imp id (fun k => k.up s)) bLe.rfl' rfl (fun p2 hp2 => ?_) (fun hkn => (hn.kn hkn).up s.le)
            have hp2 : some p1 = some p2 := hp2
            injection hp2 with hp2
            subst hp2
            exact hP.up s rfl rfl rfl (Nat.le_refl _) (fun h => h)
          · rcases mem_all _ hy with hy | ⟨j, _, rfl⟩
            · exact .inl hy
            · refine .inr ⟨Used.up (st := st) ⟨hbn.1, ?_, ?_, ?_⟩ s, .inr (.inr (.inl rfl)), fun e => (by cases e), fun _ => ⟨V, rfl, s2, s3, s4, s5⟩, fun e => (by cases e)⟩
              · show 0 ≤ (st.nd m.dst).bd; omega
              · show (st.nd m.dst).bd < (st.N : Int); omega
              · show (st.nd m.dst).bn ≤ (st.nd (st.nd m.dst).bd.toNat).seen
                rw [hbd, Int.toNat_natCast]; exact hbn.2
      · rw [if_neg hr]
        refine ⟨g, ?_, g.le_refl⟩
        refine h.quiet hw m.dst rfl (x' := { st.nd m.dst with p := some p1 }) rfl bLe.rfl' (Nat.le_refl _) (fun s hi => ?_) (fun s y hy => .inl hy)
        refine hn.up s (fun _ _ h => h) (hn.pr.imp id (fun k => k.up s)) bLe.rfl' rfl (fun p2 hp2 => ?_) (fun hkn => (hn.kn hkn).up s.le)
        have hp2 : some p1 = some p2 := hp2
        injection hp2 with hp2
        subst hp2
        exact hP.up s rfl rfl rfl (Nat.le_refl _) (fun h => h)
    · rw [if_neg hc]; exact ⟨g, h, g.le_refl⟩
theorem PI.acc (h : PI st g S a x p) (hf : g.acc i x.bn x.bd) : PI st g S a x (accP p i 1) := by
  unfold accP
  split
  · cases hs : p.sl 1 with
    | none => simp only; exact h
    | some y =>
      obtain ⟨V, X⟩ := y
      simp only
      rcases h.sl with ⟨s1, _⟩ | ⟨V', X', s1, s2, s3, s4, s5, s6⟩
      · rw [hs] at s1; cases s1
      · rw [hs] at s1
        injection s1 with s1; injection s1 with t1 t2
        subst t1 t2
        refine ⟨h.bd, h.bn, h.own, h.set, h.mu, .inr ⟨V, X ||| 2 ^ (i : Int).toNat, by unfold Go.Proofs.Ytkpfgoalohbfeaa.upd; rfl, s2, s3, s4, s5, fun j hj hb => ?_⟩⟩
        rw [Nat.testBit_or, Nat.testBit_two_pow, Int.toNat_natCast, Bool.or_eq_true, decide_eq_true_eq] at hb
        rcases hb with hb | rfl
        · exact s6 j hj hb
        · exact hf
  · exact h
theorem PI.ch (h : PI st g S a x p) (hq : p.q = st.q) (hc : chB p 1 = some v) : Chosen st.q g v := by
  unfold chB at hc
  rcases h.sl with ⟨s1, _⟩ | ⟨V, X, s1, s2, s3, s4, s5, s6⟩
  · rw [s1] at hc; cases hc
  · rw [s1, hq] at hc
    have hc : (if isQ st.q true X.testBit = true then some V.v else none) = some v := hc
    split at hc
    · rename_i hi
      injection hc with hc
      subst hc
      exact ⟨_, _, _, s5, hi, s6⟩
    · cases hc
theorem Inv.acd (h : Inv st g S) (hw : SWf st) (hL : LI st g m) (hm : LWf st.N m) (hk : m.k = 4) : Inv (acdS st m) g S := by
  unfold acdS
  have hn := h.nd m.dst hm.dst
  have hwn := hw.nd m.dst hm.dst
  cases hp : (st.nd m.dst).p with
  | none => exact h
  | some p =>
    simp only
    by_cases hc : sameB (st.nd m.dst) m = true
    · rw [if_pos hc]
      obtain ⟨e1, e2⟩ := sameB_iff.1 hc
      have hP := (hn.p p hp).acc (i := m.fr) (by rw [e1, e2]; exact hL.k4 hk)
      have q1 : (accP p m.fr 1).q = st.q := (accP_q _ _ _).trans (hwn.p p hp).1
      generalize accP p m.fr 1 = p1 at hP q1
      cases hch : chB p1 1 with
      | none =>
        simp only
        refine h.quiet hw m.dst rfl (x' := { st.nd m.dst with p := some p1 }) rfl bLe.rfl' (Nat.le_refl _) (fun s hi => ?_) (fun s y hy => .inl hy)
        refine hn.up s (fun _ _ h => h) (hn.pr.imp id (fun k => k.up s)) bLe.rfl' rfl (fun p2 hp2 => ?_) (fun hkn => (hn.kn hkn).up s.le)
        have hp2 : some p1 = some p2 := hp2
        injection hp2 with hp2
        subst hp2
        exact hP.up s rfl rfl rfl (Nat.le_refl _) (fun h => h)
      | some v =>
        simp only
        refine h.quiet hw m.dst rfl (x' := { st.nd m.dst with p := some p1, ln := v, kn := true }) rfl bLe.rfl' (Nat.le_refl _) (fun s hi => ?_) (fun s y hy => .inl hy)
        refine hn.up s (fun _ _ h => h) (hn.pr.imp id (fun k => k.up s)) bLe.rfl' rfl (fun p2 hp2 => ?_) (fun hkn => ?_)
        · have hp2 : some p1 = some p2 := hp2
          injection hp2 with hp2
          subst hp2
          exact hP.up s rfl rfl rfl (Nat.le_refl _) (fun h => h)
        · exact hP.ch q1 hch
    · rw [if_neg hc]; exact h
theorem LI.cut (h : LI st g m) (k : Nat) : LI (st.cut k) g m := ⟨h.used, h.k, h.k2, h.k3, h.k4⟩
theorem Inv.take (h : Inv st g S) (hw : SWf st) (a : Int) : ∃ g', Inv (takeS st a) g' S ∧ g.le g' := by
  unfold takeS
  cases hm : st.atL a with
  | none => exact ⟨g, h, g.le_refl⟩
  | some m =>
    simp only
    have hin : m ∈ st.l := by
      unfold Sy.atL at hm
      split at hm
      · exact List.mem_of_getElem? hm
      · cases hm
    have hL := (h.lt m hin).cut a.toNat
    have hc := h.cut a.toNat
    have hwc := hw.cut a.toNat
    have hlm : LWf (st.cut a.toNat).N m := hw.lt m hin
    unfold arrS
    by_cases k1 : m.k = 1
    · rw [if_pos k1]; exact ⟨g, hc.prep hwc hL hlm, g.le_refl⟩
    · rw [if_neg k1]
      by_cases k2 : m.k = 2
      · rw [if_pos k2]; exact hc.prom hwc hL hlm k2
      · rw [if_neg k2]
        by_cases k3 : m.k = 3
        · rw [if_pos k3]; exact hc.acpt hwc hL hlm k3
        · rw [if_neg k3]
          refine ⟨g, hc.acd hwc hL hlm ?_, g.le_refl⟩
          rcases hL.k with h | h | h | h
          · exact absurd h k1
          · exact absurd h k2
          · exact absurd h k3
          · exact h
/-- One value. -/
theorem Inv.one (h : Inv st g S) (hv : Chosen st.q g v) (hu : Chosen st.q g u) : v = u := by
  obtain ⟨n, d, X, p1, i1, a1⟩ := hv
  obtain ⟨n', d', X', p2, i2, a2⟩ := hu
  have main : ∀ {n : Nat} {d : Int} {X : Nat → Bool} {v : List UInt8} {n' : Nat} {d' : Int} {u : List UInt8}, g.prop n d = some v → isQ st.q true X = true → (∀ j, j < st.q.n.toNat → X j = true → g.acc j n d) → g.prop n' d' = some u → bLt n d n' d' → v = u := fun {n d X v n' d' u} p1 i1 a1 p2 hl => by
    rcases h.safe _ _ _ p2 n d hl with h1 | ⟨Y, h1, h2⟩
    · rw [p1] at h1; injection h1
    · obtain ⟨j, hj, y1, y2⟩ := meets h1 i1
      exact absurd (a1 j hj y2) (h2 j hj y1).2
  rcases b3 n d n' d' with hl | ⟨h1, h2⟩ | hl
  · exact main p1 i1 a1 p2 hl
  · subst h1 h2; rw [p1] at p2; injection p2
  · exact (main p2 i2 a2 p1 hl).symm
end
end Go.Proofs.Ytkpfgoalohbfeaa
