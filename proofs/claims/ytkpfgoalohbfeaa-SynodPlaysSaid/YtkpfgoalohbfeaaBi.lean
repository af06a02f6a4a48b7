/- Merged: PRj PRi PRk. -/
import Derived.Test.YtkpfgoalohbfeaaBg
import Derived.Deep.RegionHeld3
import Derived.Deep.AppendLies
/- The proposer beside the document's: how their states go together. -/
namespace Go.Proofs.Ytkpfgoalohbfeaa
open Go.RowKit

/-- The document's Propose, o what has to be there. -/
def rproE (st : Rs) (k : Nat) (own : List UInt8) (o : Option (Vt × Nat)) : Int :=
  if rreadyB st then (if k < st.f then 2 else match findV st.S k with | some _ => 0 | none => if o.isSome = false ∧ 100 < own.length then 3 else 0) else 100
def rproV (st : Rs) (k : Nat) (own : List UInt8) (o : Option (Vt × Nat)) : Vt :=
  if rproE st k own o = 0 then (match findV st.S k with | some v => v | none => ⟨k, st.n, st.d, (o.map (·.1.v)).getD own⟩) else ⟨0, 0, 0, []⟩
def rproS (st : Rs) (k : Nat) (own : List UInt8) (o : Option (Vt × Nat)) : Rs :=
  if rproE st k own o = 0 then (match findV st.S k with | some _ => st | none => { st with S := st.S ++ [⟨k, st.n, st.d, (o.map (·.1.v)).getD own⟩] }) else st

def nat2 (x : Vt × Int) : Vt × Nat := (x.1, x.2.toNat)
structure Rel (p : Ps) (st : Rs) : Prop where
  q : st.q = p.q
  n : st.n = p.n
  d : st.d = p.d
  f : st.f = p.f
  set : ∀ i, p.set.testBit i = toldBit st.L i
  mu : ∀ k, BestR st.L k ((p.mu k).map nat2)
  mn : ∀ k v nd, p.mu k = some (v, nd) → 0 ≤ nd
  sl : ∀ k, (p.sl k).map (·.1) = findV st.S k
  mks : ∀ k v X, p.sl k = some (v, X) → ∀ i, X.testBit i = markBit st.M k i
  nm : ∀ m ∈ st.M, (findV st.S m.2).isSome = true

theorem Rel.new (q : Qu) (n : Nat) (d : Int) (f : Nat) : Rel (newP q n d f) (rs0 q n d f) :=
  ⟨rfl, rfl, rfl, rfl, fun i => by simp [newP, rs0, toldBit], fun k => .inl ⟨rfl, fun t ht => by simp [rs0] at ht⟩, fun k v nd h => by simp [newP] at h,
    fun k => rfl, fun k v X h => by simp [newP] at h, fun m hm => by simp [rs0] at hm⟩

section
variable {p : Ps} {st : Rs}
theorem rising (n : Nat) (d : Int) : ∀ (l : List Vt) (last : Nat), rightV n d last l = true → ∀ a ∈ l, ∀ b ∈ l, a.s = b.s → a = b
  | [], _, _, a, ha, _, _, _ => by simp at ha
  | v :: l, last, h, a, ha, b, hb, hs => by
    simp only [rightV, Bool.and_eq_true] at h
    have hgt : ∀ x ∈ l, v.s < x.s := fun x hx => by
      obtain ⟨i, hi⟩ := List.getElem?_of_mem hx
      exact (rightV_get n d l v.s h.2 i x hi).1
    rcases List.mem_cons.1 ha with h1 | h1
    · rcases List.mem_cons.1 hb with h2 | h2
      · rw [h1, h2]
      · have := hgt b h2; rw [h1] at hs; omega
    · rcases List.mem_cons.1 hb with h2 | h2
      · have := hgt a h1; rw [h2] at hs; omega
      · exact rising n d l v.s h.2 a h1 b h2 hs
theorem told_one {st : Rs} (hw : RWf st) {t u : Nat × List Vt} (ht : t ∈ st.L) (hu : u ∈ st.L) (h : t.1 = u.1) : t = u := by
  obtain ⟨i, hi⟩ := List.getElem?_of_mem ht
  obtain ⟨j, hj⟩ := List.getElem?_of_mem hu
  have hp := List.pairwise_iff_getElem.1 hw.dist
  obtain ⟨hi1, hi2⟩ := List.getElem?_eq_some_iff.1 hi
  obtain ⟨hj1, hj2⟩ := List.getElem?_eq_some_iff.1 hj
  rcases Nat.lt_trichotomy i j with hij | hij | hij
  · exact absurd (by rw [hi2, hj2]; exact h) (hp i j hi1 hj1 hij)
  · subst hij; rw [hi] at hj; exact Option.some.inj hj
  · exact absurd (by rw [hi2, hj2]; exact h.symm) (hp j i hj1 hi1 hij)
theorem BestR.inj {st : Rs} (hw : RWf st) {k : Nat} {o o' : Option (Vt × Nat)} (h : BestR st.L k o) (h' : BestR st.L k o') : o = o' := by
  rcases h with ⟨rfl, h1⟩ | ⟨v, t, rfl, ht, hv, hs, h1⟩
  · rcases h' with ⟨rfl, _⟩ | ⟨v', t', rfl, ht', hv', hs', _⟩
    · rfl
    · exact absurd hs' (h1 t' ht' v' hv')
  · rcases h' with ⟨rfl, h2⟩ | ⟨v', t', rfl, ht', hv', hs', h2⟩
    · exact absurd hs (h2 t ht v hv)
    · obtain ⟨a1, a2⟩ := h1 t' ht' v' hv' hs'
      obtain ⟨b1, b2⟩ := h2 t ht v hv hs
      rw [lessB_no] at a1 b1
      have a3 := a2 (by omega) (by omega)
      have b3 := b2 (by omega) (by omega)
      have hte : t = t' := told_one hw ht ht' (by omega)
      subst hte
      have hve : v = v' := rising st.n st.d t.2 _ (hw.vot t ht) v hv v' hv' (by omega)
      rw [hve]

/-- A vote more, of the last told. -/
theorem BestR.put {L : List (Nat × List Vt)} {A : List Vt} {x k : Nat} {v : Vt} {mu : Nat → Option (Vt × Int)} (h : BestR (L ++ [(x, A)]) k ((mu k).map nat2)) (h0 : ∀ v nd, mu k = some (v, nd) → 0 ≤ nd) :
    BestR (L ++ [(x, A ++ [v])]) k ((putM (x : Int) mu v k).map nat2) ∧ ∀ v' nd, putM (x : Int) mu v k = some (v', nd) → 0 ≤ nd := by
  have mem : ∀ u ∈ L ++ [(x, A ++ [v])], ∀ y ∈ u.2, (∃ u' ∈ L ++ [(x, A)], u'.1 = u.1 ∧ y ∈ u'.2) ∨ (u.1 = x ∧ y = v) := fun u hu y hy => by
    rcases List.mem_append.1 hu with hu | hu
    · exact .inl ⟨u, List.mem_append_left _ hu, rfl, hy⟩
    · have : u = (x, A ++ [v]) := by simpa using hu
      subst this
      rcases List.mem_append.1 hy with hy | hy
      · exact .inl ⟨(x, A), List.mem_append_right _ (by simp), rfl, hy⟩
      · exact .inr ⟨rfl, by simpa using hy⟩
  have up : ∀ t ∈ L ++ [(x, A)], ∀ y ∈ t.2, ∃ t' ∈ L ++ [(x, A ++ [v])], t'.1 = t.1 ∧ y ∈ t'.2 := fun t ht y hy => by
    rcases List.mem_append.1 ht with ht | ht
    · exact ⟨t, List.mem_append_left _ ht, rfl, hy⟩
    · have : t = (x, A) := by simpa using ht
      subst this
      exact ⟨(x, A ++ [v]), List.mem_append_right _ (by simp), rfl, List.mem_append_left _ hy⟩
  -- the rows as they were
  have keep : v.s ≠ k → BestR (L ++ [(x, A ++ [v])]) k ((mu k).map nat2) := fun hk => by
    rcases h with ⟨h1, h2⟩ | ⟨m, t, h1, ht, hm, hs, h2⟩
    · refine .inl ⟨h1, fun u hu y hy => ?_⟩
      rcases mem u hu y hy with ⟨u', hu', _, hy'⟩ | ⟨_, rfl⟩
      · exact h2 u' hu' y hy'
      · exact hk
    · obtain ⟨t', ht', he, hm'⟩ := up t ht m hm
      refine .inr ⟨m, t', by rw [h1, he], ht', hm', hs, fun u hu y hy hys => ?_⟩
      rcases mem u hu y hy with ⟨u', hu', hue, hy'⟩ | ⟨_, rfl⟩
      · rw [← hue, he]; exact h2 u' hu' y hy' hys
      · exact absurd hys hk
  by_cases hvk : v.s = k
  · cases hm : mu k with
    | none =>
      have hp : putM (x : Int) mu v k = some (v, (x : Int)) := by
        unfold putM
        rw [hvk, hm]
        show upd mu k (v, (x : Int)) k = _
        unfold upd; rw [if_pos rfl]
      rw [hp]
      refine ⟨?_, fun v' nd e => by injection e with e; injection e with e1 e2; omega⟩
      rcases h with ⟨h1, h2⟩ | ⟨m, t, h1, ht, hm', hs, h2⟩
      · refine .inr ⟨v, (x, A ++ [v]), by simp [nat2], List.mem_append_right _ (by simp), List.mem_append_right _ (by simp), hvk, fun u hu y hy hys => ?_⟩
        rcases mem u hu y hy with ⟨u', hu', _, hy'⟩ | ⟨hux, rfl⟩
        · exact absurd hys (h2 u' hu' y hy')
        · exact ⟨by rw [lessB_no]; omega, fun _ _ => by rw [hux]; exact Nat.le_refl _⟩
      · rw [hm] at h1; simp at h1
    | some z =>
      obtain ⟨m, nd⟩ := z
      have hnd := h0 m nd hm
      rcases h with ⟨h1, h2⟩ | ⟨m', t, h1, ht, hm', hs, h2⟩
      · rw [hm] at h1; simp at h1
      · rw [hm] at h1
        have e1 : m = m' ∧ nd.toNat = t.1 := by simpa [nat2] using h1
        obtain ⟨rfl, e2⟩ := e1
        by_cases hc : (lessB v.n v.d m.n m.d || (decide (v.n = m.n) && decide (v.d = m.d) && decide (nd < (x : Int)))) = true
        · have hp : putM (x : Int) mu v k = some (m, nd) := by
            unfold putM
            rw [hvk, hm]
            show (if _ then mu else _) k = _
            rw [if_pos hc, hm]
          rw [hp]
          refine ⟨?_, fun v' nd' e => by injection e with e; injection e with e1 e2; omega⟩
          obtain ⟨t', ht', he, hmt⟩ := up t ht m hm'
          refine .inr ⟨m, t', by simp [nat2]; omega, ht', hmt, hs, fun u hu y hy hys => ?_⟩
          rcases mem u hu y hy with ⟨u', hu', hue, hy'⟩ | ⟨hux, rfl⟩
          · rw [← hue, he]; exact h2 u' hu' y hy' hys
          · rw [Bool.or_eq_true, lessB_iff] at hc
            simp only [Bool.and_eq_true, decide_eq_true_eq] at hc
            exact ⟨by rw [lessB_no]; omega, fun _ _ => by omega⟩
        · have hp : putM (x : Int) mu v k = some (v, (x : Int)) := by
            unfold putM
            rw [hvk, hm]
            show (if _ then mu else _) k = _
            rw [if_neg hc]
            unfold upd; rw [if_pos rfl]
          rw [hp]
          refine ⟨?_, fun v' nd' e => by injection e with e; injection e with e1 e2; omega⟩
          rw [Bool.or_eq_true, lessB_iff] at hc
          simp only [Bool.and_eq_true, decide_eq_true_eq] at hc
          refine .inr ⟨v, (x, A ++ [v]), by simp [nat2], List.mem_append_right _ (by simp), List.mem_append_right _ (by simp), hvk, fun u hu y hy hys => ?_⟩
          rcases mem u hu y hy with ⟨u', hu', hue, hy'⟩ | ⟨hux, rfl⟩
          · obtain ⟨h3, h4⟩ := h2 u' hu' y hy' hys
            rw [lessB_no] at h3 ⊢
            refine ⟨by omega, fun e3 e4 => ?_⟩
            have h5 := h4 (by omega) (by omega)
            show x ≤ u.1
            rw [← hue]
            omega
          · exact ⟨by rw [lessB_no]; omega, fun _ _ => by rw [hux]; exact Nat.le_refl _⟩
  · have hp : putM (x : Int) mu v k = mu k := by
      unfold putM
      have hu : ∀ z, upd mu v.s z k = mu k := fun z => by unfold upd; rw [if_neg (fun e => hvk e.symm)]
      cases hm : mu v.s with
      | none => exact hu _
      | some z =>
        obtain ⟨m, nd⟩ := z
        show (if _ then mu else _) k = _
        split
        · rfl
        · exact hu _
    rw [hp]
    exact ⟨keep hvk, h0⟩
theorem BestR.fold {L : List (Nat × List Vt)} {x k : Nat} : ∀ (l A : List Vt) {mu : Nat → Option (Vt × Int)}, BestR (L ++ [(x, A)]) k ((mu k).map nat2) → (∀ v nd, mu k = some (v, nd) → 0 ≤ nd) →
    BestR (L ++ [(x, A ++ l)]) k ((l.foldl (putM (x : Int)) mu k).map nat2) ∧ ∀ v' nd, l.foldl (putM (x : Int)) mu k = some (v', nd) → 0 ≤ nd
  | [], A, mu, h, h0 => by rw [List.append_nil]; exact ⟨h, h0⟩
  | v :: l, A, mu, h, h0 => by
    obtain ⟨h1, h2⟩ := BestR.put (v := v) h h0
    have := BestR.fold l (A ++ [v]) (mu := putM (x : Int) mu v) h1 h2
    rw [List.append_assoc] at this
    exact this
theorem BestR.nil {L : List (Nat × List Vt)} {x k : Nat} {o : Option (Vt × Nat)} (h : BestR L k o) : BestR (L ++ [(x, [])]) k o := by
  rcases h with ⟨h1, h2⟩ | ⟨m, t, h1, ht, hm, hs, h2⟩
  · refine .inl ⟨h1, fun u hu y hy => ?_⟩
    rcases List.mem_append.1 hu with hu | hu
    · exact h2 u hu y hy
    · have : u = (x, []) := by simpa using hu
      subst this; simp at hy
  · refine .inr ⟨m, t, h1, List.mem_append_left _ ht, hm, hs, fun u hu y hy hys => ?_⟩
    rcases List.mem_append.1 hu with hu | hu
    · exact h2 u hu y hy hys
    · have : u = (x, []) := by simpa using hu
      subst this; simp at hy

theorem Rel.ready (h : Rel p st) : rreadyB st = readyB p := by
  unfold rreadyB readyB
  rw [h.q]
  exact isQ_congr fun i _ => (h.set i).symm
theorem Rel.node (h : Rel p st) (x : Int) : inN st.q x = nodeB p x := by unfold inN nodeB; rw [h.q]
theorem Rel.prmE (h : Rel p st) (x : Int) (l : List Vt) : rprmE st x l = prmE p x l := by
  unfold rprmE Go.Proofs.Ytkpfgoalohbfeaa.prmE
  rw [h.node, h.n, h.d, h.f]
theorem Rel.prm (h : Rel p st) (x : Int) (l : List Vt) : Rel (prmP p x l) (rprmS st x l) := by
  unfold prmP rprmS
  rw [h.prmE, h.set]
  by_cases hc : Go.Proofs.Ytkpfgoalohbfeaa.prmE p x l = 0 ∧ toldBit st.L x.toNat = false
  · rw [if_pos hc, if_pos hc]
    have hx := prmE_node hc.1
    obtain ⟨y, rfl⟩ := Int.eq_ofNat_of_zero_le hx.1
    rw [Int.toNat_natCast]
    have hb : ∀ k, _ := fun k => BestR.fold (L := st.L) (x := y) (k := k) l [] (BestR.nil (h.mu k)) (h.mn k)
    refine ⟨h.q, h.n, h.d, h.f, fun i => ?_, fun k => (hb k).1, fun k => (hb k).2, h.sl, h.mks, h.nm⟩
    show (p.set ||| 2 ^ y).testBit i = toldBit (st.L ++ [(y, l)]) i
    rw [Nat.testBit_or, Nat.testBit_two_pow, h.set]
    unfold toldBit
    rw [List.any_append]
    simp
    congr 1
  · rw [if_neg hc, if_neg hc]
    exact h
theorem Rel.accE (h : Rel p st) (x : Int) (k : Nat) : raccE st x k = accE p x k := by
  unfold raccE Go.Proofs.Ytkpfgoalohbfeaa.accE
  rw [h.node, ← h.sl, Option.isSome_map]
theorem findV_app (S : List Vt) (v : Vt) (k : Nat) : findV (S ++ [v]) k = match findV S k with | some u => some u | none => if v.s = k then some v else none := by
  unfold findV
  rw [List.find?_append]
  cases h : S.find? (fun v => v.s == k) with
  | some u => simp
  | none =>
    by_cases hk : v.s = k
    · simp [hk]
    · simp [hk]
theorem Rel.acc (h : Rel p st) (x : Int) (k : Nat) : Rel (accP p x k) (raccS st x k) := by
  unfold raccS
  rw [h.accE]
  unfold accP Go.Proofs.Ytkpfgoalohbfeaa.accE
  by_cases hn : nodeB p x = true
  · rw [if_pos hn, if_pos hn]
    have hs := h.sl k
    have hx : 0 ≤ x := by unfold nodeB at hn; rw [decide_eq_true_eq] at hn; exact hn.1
    obtain ⟨y, rfl⟩ := Int.eq_ofNat_of_zero_le hx
    rw [Int.toNat_natCast]
    cases hk : p.sl k with
    | none => simp; exact h
    | some z =>
      obtain ⟨v, X⟩ := z
      rw [hk] at hs
      simp only [Option.isSome_some, if_true]
      have key : ∀ j, markBit (st.M ++ [(y, k)]) j = fun i => markBit st.M j i || (decide (k = j) && decide (y = i)) := fun j => by
        funext i; unfold markBit; rw [List.any_append]; simp; congr 1
      refine ⟨h.q, h.n, h.d, h.f, h.set, h.mu, h.mn, fun j => ?_, fun j v' X' hj i => ?_, fun m hm => ?_⟩
      · show (upd p.sl k (v, X ||| 2 ^ y) j).map (·.1) = findV st.S j
        unfold upd
        by_cases hjk : j = k
        · subst hjk; rw [if_pos rfl, ← hs]; rfl
        · rw [if_neg hjk]; exact h.sl j
      · show X'.testBit i = markBit (st.M ++ [(y, k)]) j i
        rw [key]
        have hj : upd p.sl k (v, X ||| 2 ^ y) j = some (v', X') := hj
        unfold upd at hj
        by_cases hjk : j = k
        · subst hjk
          rw [if_pos rfl] at hj
          injection hj with hj
          injection hj with h1 h2
          subst h1 h2
          rw [Nat.testBit_or, Nat.testBit_two_pow, h.mks j v X hk]
          simp
        · rw [if_neg hjk] at hj
          rw [h.mks j v' X' hj i]
          have : ¬ k = j := fun e => hjk e.symm
          simp [this]
      · rcases List.mem_append.1 hm with hm | hm
        · exact h.nm m hm
        · have : m = (y, k) := by simpa using hm
          subst this
          show (findV st.S k).isSome = true
          rw [← hs]; rfl
  · rw [if_neg hn, if_neg hn, if_neg (by omega)]
    exact h
theorem best_len {st : Rs} (hw : RWf st) {k : Nat} {o : Option (Vt × Nat)} (h : BestR st.L k o) : ∀ v nd, o = some (v, nd) → v.v.length ≤ 100 := fun v nd e => by
  rcases h with ⟨rfl, _⟩ | ⟨m, t, rfl, ht, hm, _, _⟩
  · simp at e
  · injection e with e
    injection e with e1 e2
    subst e1
    obtain ⟨i, hi⟩ := List.getElem?_of_mem hm
    exact (rightV_get _ _ _ _ (hw.vot t ht) i m hi).2.2.2
theorem Rel.muB (h : Rel p st) (hw : RWf st) {k : Nat} {o : Option (Vt × Nat)} (ho : BestR st.L k o) : o.map (·.1.v) = Go.Proofs.Ytkpfgoalohbfeaa.muB p k := by
  rw [BestR.inj hw ho (h.mu k)]
  unfold Go.Proofs.Ytkpfgoalohbfeaa.muB
  rw [Option.map_map]
  rfl
theorem Rel.proE (h : Rel p st) (hw : RWf st) {k : Nat} {own : List UInt8} {o : Option (Vt × Nat)} (ho : BestR st.L k o) : rproE st k own o = proE p k own := by
  unfold rproE Go.Proofs.Ytkpfgoalohbfeaa.proE
  rw [h.ready, h.f, ← h.sl]
  cases hs : p.sl k with
  | some z => rfl
  | none =>
    have hl : (o.isSome = false ∧ 100 < own.length) ↔ 100 < (proVal p k own).length := by
      unfold proVal
      rw [← h.muB hw ho]
      cases ho' : o with
      | none => simp
      | some z =>
        obtain ⟨v, nd⟩ := z
        have := best_len hw ho v nd ho'
        simp; omega
    simp only [Option.map_none, hl]
theorem Rel.proV (h : Rel p st) (hw : RWf st) {k : Nat} {own : List UInt8} {o : Option (Vt × Nat)} (ho : BestR st.L k o) : rproV st k own o = proV p k own := by
  unfold rproV Go.Proofs.Ytkpfgoalohbfeaa.proV
  rw [h.proE hw ho, ← h.sl, h.n, h.d, h.muB hw ho]
  cases hs : p.sl k with
  | some z => rfl
  | none => rfl
theorem Rel.pro (h : Rel p st) (hw : RWf st) {k : Nat} {own : List UInt8} {o : Option (Vt × Nat)} (ho : BestR st.L k o) : Rel (proP p k own) (rproS st k own o) := by
  unfold rproS proP
  rw [h.proE hw ho]
  by_cases hc : Go.Proofs.Ytkpfgoalohbfeaa.proE p k own = 0
  · rw [if_pos hc, if_pos hc]
    have hs := h.sl k
    cases hk : p.sl k with
    | some z => rw [hk] at hs; rw [← hs]; exact h
    | none =>
      rw [hk] at hs
      rw [← hs]
      show Rel { p with sl := upd p.sl k (⟨k, p.n, p.d, proVal p k own⟩, 0) } { st with S := st.S ++ [⟨k, st.n, st.d, (o.map (·.1.v)).getD own⟩] }
      have hv : (o.map (·.1.v)).getD own = proVal p k own := by unfold proVal; rw [h.muB hw ho]
      have he : (⟨k, st.n, st.d, proVal p k own⟩ : Vt) = ⟨k, p.n, p.d, proVal p k own⟩ := by rw [h.n, h.d]
      rw [hv, he]
      refine ⟨h.q, h.n, h.d, h.f, h.set, h.mu, h.mn, fun j => ?_, fun j v' X' hj i => ?_, fun m hm => ?_⟩
      · show (upd p.sl k (⟨k, p.n, p.d, proVal p k own⟩, 0) j).map (·.1) = findV (st.S ++ [⟨k, p.n, p.d, proVal p k own⟩]) j
        rw [findV_app]
        unfold upd
        by_cases hjk : j = k
        · subst hjk; rw [if_pos rfl, ← hs]; simp
        · rw [if_neg hjk, h.sl j]
          have : ¬ k = j := fun e => hjk e.symm
          cases hf : findV st.S j with
          | none => simp [this]
          | some u => rfl
      · have hj : upd p.sl k (⟨k, p.n, p.d, proVal p k own⟩, 0) j = some (v', X') := hj
        unfold upd at hj
        by_cases hjk : j = k
        · subst hjk
          rw [if_pos rfl] at hj
          injection hj with hj
          injection hj with h1 h2
          subst h1 h2
          rw [Nat.zero_testBit]
          symm
          show markBit st.M j i = false
          unfold markBit
          rw [List.any_eq_false]
          intro m hm
          have h3 := h.nm m hm
          intro h4
          have h5 : m.2 = j := by simp at h4; exact h4.1
          rw [h5, ← hs] at h3
          simp at h3
        · rw [if_neg hjk] at hj
          exact h.mks j v' X' hj i
      · show (findV (st.S ++ [_]) m.2).isSome = true
        rw [findV_app]
        have := h.nm m hm
        cases hf : findV st.S m.2 with
        | none => rw [hf] at this; simp at this
        | some u => rfl
  · rw [if_neg hc, if_neg hc]
    exact h
theorem Rel.chB (h : Rel p st) (k : Nat) : rchB st k = chB p k := by
  unfold rchB Go.Proofs.Ytkpfgoalohbfeaa.chB
  rw [← h.sl]
  cases hk : p.sl k with
  | none => rfl
  | some z =>
    obtain ⟨v, X⟩ := z
    show (if isQ st.q true (markBit st.M k) then some v.v else none) = if isQ p.q true X.testBit then some v.v else none
    rw [h.q, isQ_congr (p := markBit st.M k) (p' := X.testBit) fun i _ => (h.mks k v X hk i).symm]
theorem Rel.pre (h : Rel p st) {a b : Nat} (ha : PreAt p a) (hb : RPreAt st b) : a = b := by
  refine ha.inj ?_
  obtain ⟨h1, h2, h3⟩ := hb
  refine ⟨by rw [← h.f]; exact h1, fun j h4 h5 => ?_, ?_⟩
  · unfold isCh; rw [← h.chB]; exact h2 j (by rw [h.f]; exact h4) h5
  · unfold isCh; rw [← h.chB]; exact h3
theorem Rel.top (h : Rel p st) {a b : Nat} (ha : TopAt p a) (hb : RTop st.L b) : a = b := by
  refine ha.inj ⟨fun k hk => ?_, ?_⟩
  · rcases h.mu k with ⟨h1, _⟩ | ⟨v, t, _, ht, hv, hs, _⟩
    · rw [← Option.isSome_map (f := nat2), h1] at hk; simp at hk
    · rw [← hs]; exact hb.1 t ht v hv
  · rcases hb.2 with h0 | ⟨t, ht, v, hv, hs⟩
    · exact .inl h0
    · right
      rcases h.mu b with ⟨_, h2⟩ | ⟨v', t', h1, _⟩
      · exact absurd hs (h2 t ht v hv)
      · rw [← Option.isSome_map (f := nat2), h1]; rfl
end
end Go.Proofs.Ytkpfgoalohbfeaa

/- The document's Propose: a slot more. -/
namespace Go.Proofs.Ytkpfgoalohbfeaa
open Go.RowKit

section
variable {w0 w w' : World} {r : Nat} {st : Rs} {F : Nat → Prop} {sv lv sl ml s v' : Value} {tv svs : List Value}
theorem findV_none {S : List Vt} {k : Nat} (h : findV S k = none) : ∀ v ∈ S, v.s ≠ k := fun v hv e => by
  unfold findV at h
  rw [List.find?_eq_none] at h
  exact h v hv (by simp [e])
theorem RX.putSlot (h0 : RX w0 r st F sv lv sl ml tv svs) (hf0 : Fr (fun _ => False) w0 w) (p : Vt) (hp : st.f ≤ p.s ∧ p.s < 18446744073709551616 ∧ p.n = st.n ∧ p.d = st.d ∧ p.v.length ≤ 100) (hd : findV st.S p.s = none)
    (hs : w.ownsRow w0.heap.size 5 1 s p.v.length (u8s p.v)) (ha : Appended 0 46 4 w sl st.S.length 1 (flatV st.S svs) [.int .u64 p.s, .int .u64 p.n, .int .i64 p.d, s] v' w') :
    RX (w'.setCell ⟨r, 9, none⟩ v') r { st with S := st.S ++ [p] } (More F w0 w') sv lv v' ml tv (svs ++ [s]) := by
  have h := h0.fr hf0 (fun _ _ h => h)
  have hf := app_fr (r := r) ha 9 v'
  have ho := app_own ha
  have hr0 := h0.blk.lt
  have hs0 := hf0.size
  have hs1 := hf.size
  have hs1' : (w'.setCell ⟨r, 9, none⟩ v').heap.size = w'.heap.size := by simp
  have hl0 := fun k hk => own_lt h0.told (k := k) hk
  have hs0' := fun k hk => own_lt h0.slot (k := k) hk
  have hm0 := fun k hk => own_lt h0.mark (k := k) hk
  obtain ⟨k1, k2⟩ := h.keepV (F' := More F w0 w') (lv' := lv) (sl' := v') (ml' := ml) hf (fun k hk => by rcases hk with hk | hk; exact .inr (.inl hk); exact .inr (.inr (.inr (.inl hk)))) (fun k hk => by
    rcases hk with hk | hk | hk | hk | hk
    · exact .inl (.inl fun hF => hk (.inl hF))
    · exact .inl (.inr (.inl hk))
    · exact .inl (.inr (.inr (.inl hk)))
    · rcases ho k hk with h1 | h1
      · exact .inl (.inr (.inr (.inr (.inl h1))))
      · exact .inr h1.1
    · exact .inl (.inr (.inr (.inr (.inr hk)))))
  have hB : Blk w' r 136 _ := ha.blk h.blk (fun e => own_blk_ne h.slot h.blk (by decide) r e rfl)
  have hrow := ha.1
  have hsx : ∀ k, s.ownBlock = some k → w0.heap.size ≤ k ∧ k < w.heap.size := fun k hk => hs.lt k hk
  refine ⟨by simpa using hB.set_ 9 v', own_fr h.site hf (fun k hk => ?_), own_fr h.told hf (fun k hk => ?_), ?_, own_fr h.mark hf (fun k hk => ?_), h.tlen, by simp [h.slen], k1, fun i u z hu hz => ?_, .inl h.rF, fun k hk => .inl (h.svF k hk), fun k hk => .inl (h.lvF k hk), fun k hk => ?_, fun k hk => .inl (h.mlF k hk), ?_⟩
  · rintro (e | e)
    · exact own_blk_ne h.site h.blk (by decide) k hk e
    · exact own_own_ne h.site h.slot (by decide) k k hk e rfl
  · rintro (e | e)
    · exact own_blk_ne h.told h.blk (by decide) k hk e
    · exact own_own_ne h.told h.slot (by decide) k k hk e rfl
  · show World.ownsRow _ 0 46 4 v' (st.S ++ [p]).length (flatV (st.S ++ [p]) (svs ++ [s]))
    rw [List.length_append, List.length_singleton, flatV_append _ _ _ _ h.slen]
    refine own_fr hrow (Fr.set1 w' r 9 v') (fun k hk e => ?_)
    exact own_blk_ne hrow hB (by decide) k hk e
  · rintro (e | e)
    · exact own_blk_ne h.mark h.blk (by decide) k hk e
    · exact own_own_ne h.mark h.slot (by decide) k k hk e rfl
  · by_cases hi : i < st.S.length
    · have hu' : st.S[i]? = some u := by
        have hu : (st.S ++ [p])[i]? = some u := hu
        rwa [List.getElem?_append_left hi] at hu
      have hz' : svs[i]? = some z := by rwa [List.getElem?_append_left (by rw [h.slen]; exact hi)] at hz
      exact k2 i u z hu' hz'
    · have hi' : i = st.S.length := by
        have hu : (st.S ++ [p])[i]? = some u := hu
        have := (List.getElem?_eq_some_iff.1 hu).1
        simp at this; omega
      subst hi'
      have hu : (st.S ++ [p])[st.S.length]? = some u := hu
      rw [List.getElem?_append_right (Nat.le_refl _)] at hu
      rw [List.getElem?_append_right (by rw [h.slen]; exact Nat.le_refl _), h.slen] at hz
      simp at hu hz
      subst hu hz
      refine ⟨Byt.of_own (own_fr hs hf (fun k hk => ?_)), fun k hk hn hO => ?_⟩
      · have := hsx k hk
        rintro (e | e)
        · omega
        · have := hs0' k e; omega
      · have hkx := hsx k hk
        rcases hO with e | e | e | e | e
        · exact e (.inr ⟨hkx.1, by omega⟩)
        · omega
        · have := hl0 k e; omega
        · rcases ho k e with h1 | h1
          · have := hs0' k h1; omega
          · omega
        · have := hm0 k e; omega
  · rcases ho k hk with h1 | h1
    · exact .inl (h.slF k h1)
    · exact .inr ⟨by omega, h1.2⟩
  · have hw := h.wf
    refine ⟨hw.ok, hw.ql, hw.rb, hw.n64, hw.f1, hw.f64, hw.node, hw.dist, hw.vot, fun x hx => ?_, ?_, hw.mks⟩
    · rcases List.mem_append.1 hx with hx | hx
      · exact hw.sl x hx
      · have : x = p := by simpa using hx
        rw [this]; exact hp
    · refine List.pairwise_append.2 ⟨hw.sd, by simp, fun a ha b hb => ?_⟩
      have : b = p := by simpa using hb
      rw [this]
      exact findV_none hd a ha
end

/-- What the document's Propose leaves. -/
def RPro (r : Nat) (st : Rs) (F : Nat → Prop) (k : Nat) (own : List UInt8) (w : World) (e : Ending) (w' : World) : Prop :=
  ∃ o va vc, BestR st.L k o ∧ e = .returned (.tuple #[vtV (rproV st k own o) (.slice va (rproV st k own o).v.length vc), .int .i64 (rproE st k own o)]) ∧
    Byt w' (.slice va (rproV st k own o).v.length vc) (rproV st k own o).v ∧ (∀ j, (Value.slice va (rproV st k own o).v.length vc).ownBlock = some j → (rproV st k own o).v ≠ [] → F j ∨ w.heap.size ≤ j) ∧
    ∃ F', RR w' r (rproS st k own o) F' ∧ Nx F F' w w' ∧ Fr F w w'
theorem rpro_no {r : Nat} {st : Rs} {F : Nat → Prop} {k : Nat} {own : List UInt8} {w w' : World} {o : Option (Vt × Nat)} {E : Int} (ho : BestR st.L k o) (hE : rproE st k own o = E) (h0 : ¬ E = 0) (h : RR w r st F) (hf : Fr (fun _ => False) w w') :
    RPro r st F k own w (.returned (.tuple #[.agg #[.int .u64 0, .int .u64 0, .int .i64 0, .slice none 0 0], .int .i64 E])) w' := by
  have hv : rproV st k own o = ⟨0, 0, 0, []⟩ := by unfold rproV; rw [hE, if_neg h0]
  have hs : rproS st k own o = st := by unfold rproS; rw [hE, if_neg h0]
  refine ⟨o, none, 0, ho, by rw [hv, hE]; rfl, by rw [hv]; exact byt_nil _, fun j hj => by simp [Value.ownBlock] at hj, F, by rw [hs]; exact h.none_ hf, Nx.refl _ _ _, hf.none_up⟩
/-- The result's row turned behind all. -/
theorem RR.off {r : Nat} {st : Rs} {F : Nat → Prop} {w w' : World} {b : Nat} (h : RR w r st F) (hf : Fr (fun k => k = b) w w') (hb : ¬ F b) : RR w' r st F := h.fr hf (fun _ hk e => hb (e ▸ hk))
end Go.Proofs.Ytkpfgoalohbfeaa

/- The walk of the document's Propose. -/
namespace Go.Proofs.Ytkpfgoalohbfeaa
open Go.RowKit

theorem row4 {w : World} {b : Nat} {T : TypeId} {a0 a1 a2 a3 : Value} (hB : Blk w b T #[a0, a1, a2, a3]) (x0 x1 x2 x3 : Value) :
    Blk ((((w.setCell ⟨b, 0, none⟩ x0).setCell ⟨b, 1, none⟩ x1).setCell ⟨b, 2, none⟩ x2).setCell ⟨b, 3, none⟩ x3) b T #[x0, x1, x2, x3] ∧
    Fr (fun k => k = b) w ((((w.setCell ⟨b, 0, none⟩ x0).setCell ⟨b, 1, none⟩ x1).setCell ⟨b, 2, none⟩ x2).setCell ⟨b, 3, none⟩ x3) :=
  ⟨by simpa using (((hB.set_ 0 x0).set_ 1 x1).set_ 2 x2).set_ 3 x3,
    (((Fr.set1 w b 0 _).setCell (p := ⟨b, 1, none⟩) (fun _ => rfl) _).setCell (p := ⟨b, 2, none⟩) (fun _ => rfl) _).setCell (p := ⟨b, 3, none⟩) (fun _ => rfl) _⟩

set_option maxRecDepth 100000 in
set_option maxHeartbeats 16000000 in
theorem rpro_any (r : Nat) (st : Rs) (F : Nat → Prop) (k : Nat) (hk64 : k < 18446744073709551616) (s : Value) (own : List UInt8) (w : World) (h : RR w r st F) (hF : ∀ j, F j → j < w.heap.size) (hby : Byt w s own) (hol : own.length ≤ 1000000) (hSl : st.S.length ≤ 1000000) :
    Calls Try.prog 87 #[.pointer (some ⟨r, 0, none⟩), .int .u64 k, s] w (RPro r st F k own w) := by
  obtain ⟨i0, hi0, hz0, hz1, hz2⟩ := info_parts vtinfo
  have hwf := h.wf
  have HFin := Lib.hid (fun w' (hf : Fr (fun _ => False) w w') => rfind_any r st F k w' (h.none_ hf))
  have HRdy := Lib.hid (fun w' (hf : Fr (fun _ => False) w w') => rready_any r st F w' (h.none_ hf))
  have HMus := Lib.hid (fun w' (hf : Fr (fun _ => False) w w') => rmust_any r st F k w' (h.none_ hf))
  have HR := Lib.hid h
  have HW := Lib.hid hwf
  have HBy := Lib.hid hby
  have HFF := Lib.hid hF
  obtain ⟨A, sc, rfl, -, -⟩ := hby
  have c7 : w.cell? ⟨r, 7, none⟩ = some (.int .u64 st.f) := by
    obtain ⟨sv, lv, sl, ml, tv, svs, h⟩ := h
    exact h.blk.cell 7 rfl
  obtain ⟨w1, hw1⟩ : ∃ w1, w1 = w.alloc (.cells #[.int .u64 0, .int .u64 0, .int .i64 0, .slice none 0 0] 46) := ⟨_, rfl⟩
  have hf1 : Fr (fun _ => False) w w1 := by rw [hw1]; exact (Fr.refl _ w).alloc _
  have hB1 : Blk w1 w.heap.size 46 #[.int .u64 0, .int .u64 0, .int .i64 0, .slice none 0 0] := by rw [hw1]; exact Blk.new _ _ _
  have HW1 := Lib.hid hw1
  have hw1s : w1.heap.size = w.heap.size + 1 := by rw [hw1]; simp
  have HF1 := Lib.hid hf1
  clear hw1 h hwf hF
  go_enter Try.func87, Try.ntmps87
  go_upto_region 1 with (fail)
  rw [← HW1.out]
  clear HW1
  go_wp2_with fail
  refine (HRdy.out w1 hf1).mono ?_
  rintro e w2 ⟨rfl, hf2⟩
  have hf12 := hf1.tr hf2
  have HW1r := Lib.hid (And.intro hf1 hf2)
  have hB2 := hB1.fr hf2 (fun h => h)
  clear hf1 hf2 hB1
  go_wp2_with fail
  refine (HFin.out w2 hf12).mono ?_
  rintro e w3 ⟨⟨z, hz, rfl⟩, rfl⟩
  have HZ := Lib.hid (hz.is HW.out)
  clear hz
  go_wp2_with fail
  refine (HMus.out w2 hf12).mono ?_
  rintro e w3 ⟨o, ho, va, vc, rfl, hov, hf3⟩
  have HO := Lib.hid ho
  have hB3 := hB2.fr hf3 (fun h => h)
  have hf13 := hf12.tr hf3
  have HF13 := Lib.hid hf13
  have HF12 := Lib.hid (And.intro hf12 hf3)
  have HOv := Lib.hid hov
  have hz3 : w.heap.size < w2.heap.size := hB2.lt
  have hz34 : w.heap.size < w3.heap.size := hB3.lt
  have c7 := hf13.cell c7 (fun h => h)
  have b0 := hB3.cell 0 rfl
  have b1 := hB3.cell 1 rfl
  have b2 := hB3.cell 2 rfl
  have b3 := hB3.cell 3 rfl
  have b4 := hB3.frozen
  have HB3 := Lib.hid hB3
  clear ho hov hf3 hf12 hB2 hf13 hB3
  cases hr : rreadyB st with
  | false =>
    have hE : rproE st k own o = 100 := by unfold rproE; rw [hr]; rfl
    have HE := Lib.hid hE
    clear hE hr c7
    go_wp2_with fail
    refine bodyPost_ret (results_row_tmp rfl _ _ w.heap.size 46 #[.int .u64 0, .int .u64 0, .int .i64 0, .slice none 0 0] (0, 0) _ rfl ?_ Try.underlying46 rfl (by kernel_rfl)) rfl ?_
    · exact (row4 HB3.out _ _ _ _).1
    · exact rpro_no HO.out HE.out (by omega) HR.out (HF13.out.trans (row4 HB3.out _ _ _ _).2 (fun x hx h => by rcases h with h | h; exact h; omega))
  | true =>
    have HRd := Lib.hid hr
    clear hr
    by_cases hkf : k < st.f
    · have hE : rproE st k own o = 2 := by unfold rproE; rw [HRd.out, if_pos rfl, if_pos hkf]
      have HE := Lib.hid hE
      clear hE
      have hkf' : (k : Int) < (st.f : Int) := by omega
      go_wp2_with fail
      refine bodyPost_ret (results_row_tmp rfl _ _ w.heap.size 46 #[.int .u64 0, .int .u64 0, .int .i64 0, .slice none 0 0] (0, 0) _ rfl ?_ Try.underlying46 rfl (by kernel_rfl)) rfl ?_
      · exact (row4 HB3.out _ _ _ _).1
      · exact rpro_no HO.out HE.out (by omega) HR.out (HF13.out.trans (row4 HB3.out _ _ _ _).2 (fun x hx h => by rcases h with h | h; exact h; omega))
    · have hkf' : ¬ (k : Int) < (st.f : Int) := by omega
      rcases HZ.out with ⟨rfl, hfn⟩ | ⟨i, v, rfl, hi, hvk, hfn⟩
      · have HFn := Lib.hid hfn
        clear hfn
        cases hos : o.isSome with
        | false =>
          have HOs := Lib.hid hos
          clear hos
          by_cases hl : 100 < own.length
          · have hE : rproE st k own o = 3 := by unfold rproE; rw [HRd.out, if_pos rfl, if_neg hkf, HFn.out]; simp only; rw [if_pos ⟨HOs.out, hl⟩]
            have HE := Lib.hid hE
            have hl' : (100 : Int) < (own.length : Int) := by omega
            clear hE
            have hom : (o.map (·.1.v)).isSome = false := by rw [Option.isSome_map]; exact HOs.out
            rw [hom]
            clear hom
            go_wp2_with fail
            refine bodyPost_ret (results_row_tmp rfl _ _ w.heap.size 46 #[.int .u64 0, .int .u64 0, .int .i64 0, .slice none 0 0] (0, 0) _ rfl ?_ Try.underlying46 rfl (by kernel_rfl)) rfl ?_
            · exact (row4 HB3.out _ _ _ _).1
            · exact rpro_no HO.out HE.out (by omega) HR.out (HF13.out.trans (row4 HB3.out _ _ _ _).2 (fun x hx h => by rcases h with h | h; exact h; omega))
          · have hon : o = none := by cases o with | none => rfl | some _ => cases HOs.out
            have HOn := Lib.hid hon
            have hom : (o.map (·.1.v)).isSome = false := by rw [hon]; rfl
            have hl' : ¬ (100 : Int) < (own.length : Int) := by omega
            rw [hom]
            clear hom hon
            have hE : rproE st k own o = 0 := by unfold rproE; rw [HRd.out, if_pos rfl, if_neg hkf, HFn.out]; simp only; rw [if_neg (by rintro ⟨_, h⟩; omega)]
            have hVV : rproV st k own o = ⟨k, st.n, st.d, own⟩ := by unfold rproV; rw [if_pos hE, HFn.out]; simp only; rw [show (Option.map (fun x => x.1.v) o).getD own = own by rw [HOn.out]; rfl]
            have hSS : rproS st k own o = { st with S := st.S ++ [⟨k, st.n, st.d, own⟩] } := by unfold rproS; rw [if_pos hE, HFn.out]; simp only; rw [show (Option.map (fun x => x.1.v) o).getD own = own by rw [HOn.out]; rfl]
            have HE := Lib.hid (And.intro hE (And.intro hVV hSS))
            clear hE hVV hSS
            have hX := HR.out
            obtain ⟨sv, lv, sl, ml, tv, svs, hX⟩ := hX
            have HX := Lib.hid hX
            have HK := Lib.hid (fun w' (hf : Fr (fun _ => False) w3 w') => And.intro (((hX.blk.fr HF13.out (fun h => h)).fr hf (fun h => h)).cell 5 rfl) (((hX.blk.fr HF13.out (fun h => h)).fr hf (fun h => h)).cell 6 rfl))
            have c5 : w3.cell? ⟨r, 5, none⟩ = some (.int .u64 st.n) := (HK.out w3 (Fr.refl _ w3)).1
            have c6 : w3.cell? ⟨r, 6, none⟩ = some (.int .i64 st.d) := (HK.out w3 (Fr.refl _ w3)).2
            have hbw := HBy.out.fr HF13.out (fun _ _ h => h)
            have hd3 := (Fr.refl (fun _ => False) w3).drew
            have c5a := al_cell c5 (.cells #[.int .u64 0, .int .u64 0, .int .i64 0, .slice none 0 0] 46)
            have c6a := al_cell c6 (.cells #[.int .u64 0, .int .u64 0, .int .i64 0, .slice none 0 0] 46)
            clear hX

            clear b0 b1 b2 b3 b4
            go_upto_region 12 with (fail)
            clear c7
            first
              | go_region_law (first
                  | (go_simp
                     go_at_call 66
                     refine (lcopy_any _ own _ (hbw.fr (((Fr.refl (fun _ => False) w3).alloc _).drew) (fun _ _ h => h)) hol).mono ?_
                     rintro e w4 ⟨va4, vc4, rfl, ho4, hf4⟩
                     have hd4 := (((Fr.refl (fun _ => False) w3).alloc (.cells #[.int .u64 0, .int .u64 0, .int .i64 0, .slice none 0 0] 46)).drew).tr hf4
                     obtain ⟨e5, e6⟩ := HK.out _ hd4
                     have hB4 : Blk w4 w3.heap.size 46 #[.int .u64 0, .int .u64 0, .int .i64 0, .slice none 0 0] := ((Blk.new w3 _ _).drew).fr hf4 (fun h => h)
                     have y0 := hB4.cell 0 rfl
                     have y1 := hB4.cell 1 rfl
                     have y2 := hB4.cell 2 rfl
                     have y3 := hB4.cell 3 rfl
                     have y4 := hB4.frozen
                     have hkind := Lib.hid (Nat.le_refl 1))
                  | (go_simp
                     go_at_call 66
                     refine (lcopy_any _ own _ (hbw.fr ((Fr.refl (fun _ => False) w3).drew) (fun _ _ h => h)) hol).mono ?_
                     rintro e w4 ⟨va4, vc4, rfl, ho4, hf4⟩
                     have hd4 := ((Fr.refl (fun _ => False) w3).drew).tr hf4
                     obtain ⟨e5, e6⟩ := HK.out _ hd4
                     have e5a := al_cell e5 (.cells #[.int .u64 0, .int .u64 0, .int .i64 0, .slice none 0 0] 46)
                     have e6a := al_cell e6 (.cells #[.int .u64 0, .int .u64 0, .int .i64 0, .slice none 0 0] 46)
                     have hkind := Lib.hid (Nat.le_refl 2)))
              | fail
            all_goals
              first
                | (have hk1 : Hid (1 ≤ 1) := hkind
                   clear y0 y1 y2 y3 y4 hk1
                   have hrw6 := row4 hB4 (.int .u64 k) (.int .u64 st.n) (.int .i64 st.d) (.slice va4 own.length vc4)
                   obtain ⟨w6, hw6⟩ : ∃ w6, w6 = (((w4.setCell ⟨w3.heap.size, 0, none⟩ (.int .u64 k)).setCell ⟨w3.heap.size, 1, none⟩ (.int .u64 st.n)).setCell ⟨w3.heap.size, 2, none⟩ (.int .i64 st.d)).setCell ⟨w3.heap.size, 3, none⟩ (.slice va4 own.length vc4) := ⟨_, rfl⟩
                   obtain ⟨bv, hbv⟩ : ∃ b, b = w3.heap.size := ⟨_, rfl⟩
                   rw [← hw6, ← hbv] at hrw6
                   rw [← hw6, ← hbv]
                   obtain ⟨hV5, hf5⟩ := hrw6
                   have hbv4 : bv < w4.heap.size := by rw [hbv]; exact hB4.lt
                   have hf35 : Fr (fun _ => False) w3 w6 := hd4.trans hf5 (fun x hx h => by rcases h with h | h; exact h; omega)
                   have hv4b : ∀ j, (Value.slice va4 own.length vc4).ownBlock = some j → w3.heap.size ≤ j ∧ j ≠ bv := fun j hj => by
                     have := (ho4.lt j hj).1
                     rw [hbv]
                     simp [World.drew] at this
                     omega
                   have ho5 := own_base (own_fr ho4 hf5 (fun j hj => (hv4b j hj).2))
                   have hbv3 : w3.heap.size ≤ bv := by omega
                   clear hB4)
                | (obtain ⟨w6, hw6⟩ : ∃ w6, w6 = w4.alloc (.cells #[.int .u64 k, .int .u64 st.n, .int .i64 st.d, .slice va4 own.length vc4] 46) := ⟨_, rfl⟩
                   obtain ⟨bv, hbv⟩ : ∃ b, b = w4.heap.size := ⟨_, rfl⟩
                   clear e5a e6a
                   have hV5 : Blk w6 bv 46 #[.int .u64 k, .int .u64 st.n, .int .i64 st.d, .slice va4 own.length vc4] := by rw [hw6, hbv]; exact Blk.new _ _ _
                   have hf5 : Fr (fun _ => False) w4 w6 := by rw [hw6]; exact (Fr.refl _ w4).alloc _
                   rw [← hw6, ← hbv]
                   have hf35 := hd4.tr hf5
                   have hv4b : ∀ j, (Value.slice va4 own.length vc4).ownBlock = some j → w3.heap.size ≤ j ∧ j ≠ bv := fun j hj => by
                     have := ho4.lt j hj
                     have := ((Fr.refl (fun _ => False) w3).drew).size
                     omega
                   have ho5 := own_base (own_fr ho4 hf5 (fun _ _ h => h))
                   have hbv3 : w3.heap.size ≤ bv := by have := hd4.size; omega)
              clear c5 c6 c5a c6a e5 e6
              have HF5 := Lib.hid (And.intro hf35 (And.intro hv4b hbv3))
              clear hw6 hf5 hbv hd4 hkind

              have hV6 := hV5
              have ho6 : w6.ownsRow w1.heap.size 5 1 (.slice va4 own.length vc4) own.length (u8s own) := own_up ho5 (fun j hj => by have := (hv4b j hj).1; have := HF12.out.1.size; have := HF12.out.2.size; have := hw1s; omega)
              have hf36 : Fr (fun _ => False) w3 w6 := HF5.out.1
              have hl100 : own.length ≤ 100 := by omega

              have HF6 := Lib.hid hf36
              have hf16 : Fr (fun _ => False) w1 w6 := HW1r.out.2.tr (HF12.out.2.tr hf36)
              have hX1 := HX.out.fr HW1r.out.1 (fun _ _ h => h)
              have hX6 := hX1.fr hf16 (fun _ _ h => h)
              have hrow := hX6.slot
              obtain ⟨la, lc, rfl⟩ := own_sl4 hrow
              have j0 := hX6.blk.cell 9 rfl
              have jf := hX6.blk.frozen 9
              have j1 := hV6.cell 0 rfl
              have j2 := hV6.cell 1 rfl
              have j3 := hV6.cell 2 rfl
              have j4 := hV6.cell 3 rfl
              have hrb : ∀ j, (Value.slice la st.S.length lc).ownBlock = some j → j ≠ r := fun j hj => own_blk_ne hrow hX6.blk (by decide) j hj
              have HB := Lib.hid (fun w' (hf : Fr (fun j => (Value.slice la st.S.length lc).ownBlock = some j) w6 w') => hX6.blk.fr hf (fun h => hrb r h rfl))
              have hr6 := hX6.blk.lt
              have hv6 := hV6.lt
              have HX1 := Lib.hid hX1
              have HV6 := Lib.hid (And.intro hV6 (And.intro ho6 (And.intro hf16 hX6)))
              clear hX1 hX6 hV6 ho6 hf16 hf36 hV5 hd3 hbw ho4 hf4 hf35 HK ho5 hv4b
              go_upto_region 15 with (fail)
              first
                | go_region_law (first
                    | (refine step_append_lies _ (by rfl) _ _ _ (by rfl) 0 46 i0 _ 4 48 Try.underlying51 hi0 hz0 hz1 hz2 rfl (by omega) _ _ _ (by rfl) (own_fr hrow (((Fr.refl (fun _ => False) w6).alloc _).drew) (fun _ _ h => h))
                         ⟨w6.heap.size, 0, none⟩ 1 1 [.int .u64 k, .int .u64 st.n, .int .i64 st.d, .slice va4 own.length vc4] (by rfl) (by rfl) (World.news_of_block (cs := #[.int .u64 k, .int .u64 st.n, .int .i64 st.d, .slice va4 own.length vc4]) (t := 46) (fr := (0, 0)) (heap_alloc_new w6 _)) (by simp [Value.oneCell'])
                         (by omega) (by simp only [maxLen]; omega) (by omega) (by omega) (w6.heap.size + 1) (by simp [World.drew]) ?_
                       intro gg lc' w7 hown7 hgrow hat hlt
                       have hf7 : Fr (fun j => (Value.slice la st.S.length lc).ownBlock = some j) w6 w7 := Fr.grown (((Fr.refl (fun j => (Value.slice la st.S.length lc).ownBlock = some j) w6).alloc _).drew) hgrow (fun j hj _ => hj)
                       have q1 := (HB.out w7 hf7).cell 9 rfl
                       have q2 := (HB.out w7 hf7).frozen 9))
                | fail
              all_goals
                clear j0 jf j1 j2 j3 j4 q1 q2
                obtain ⟨w8, hw8⟩ : ∃ w8, w8 = w7.setCell ⟨r, 9, none⟩ (.slice (some ⟨gg, 0, none⟩) (st.S.length + 1) lc') := ⟨_, rfl⟩
                rw [← hw8]
                obtain ⟨hV6, ho6, hf16, hX6⟩ := HV6.out
                have hf68 : Fr (fun j => j = r ∨ (Value.slice la st.S.length lc).ownBlock = some j) w6 w8 := by
                  rw [hw8]
                  exact (hf7.mono (fun _ _ h => .inr h)).setCell (p := ⟨r, 9, none⟩) (fun _ => .inl rfl) _
                have hb6 : Blk w6 w.heap.size 46 _ := HB3.out.fr HF6.out (fun h => h)
                have hnb : ¬ (w.heap.size = r ∨ (Value.slice la st.S.length lc).ownBlock = some w.heap.size) := by
                  rintro (e | e)
                  · exact hb6.ne_ hX6.blk (by decide) e
                  · have := HFF.out _ (HX.out.slF _ e); omega
                have hnv : ¬ (bv = r ∨ (Value.slice la st.S.length lc).ownBlock = some bv) := by
                  rintro (e | e)
                  · exact hV6.ne_ hX6.blk (by decide) e
                  · have := HFF.out _ (HX.out.slF _ e); have := HF5.out.2.2; have := HF6.out.size; have := hz34; omega
                have hB8 := hb6.fr hf68 hnb
                have hV8 := hV6.fr hf68 hnv
                have b0 := hB8.cell 0 rfl
                have b1 := hB8.cell 1 rfl
                have b2 := hB8.cell 2 rfl
                have b3 := hB8.cell 3 rfl
                have b4 := hB8.frozen
                have v0 := hV8.cell 0 rfl
                have v1 := hV8.cell 1 rfl
                have v2 := hV8.cell 2 rfl
                have v3 := hV8.cell 3 rfl
                have hap : Appended 0 46 4 _ (Value.slice la st.S.length lc) st.S.length 1 _ [.int .u64 k, .int .u64 st.n, .int .i64 st.d, .slice va4 own.length vc4] (.slice (some ⟨gg, 0, none⟩) (st.S.length + 1) lc') w7 :=
                  ⟨hown7, hgrow, by rcases hat with h | h; exact .inl h.symm; right; rw [h]; simp [Value.ownBlock, World.drew]⟩
                have hP := HX1.out.putSlot (((hf16.alloc _).drew)) ⟨k, st.n, st.d, own⟩ ⟨Nat.not_lt.1 hkf, hk64, rfl, rfl, hl100⟩ HFn.out (own_fr ho6 (((Fr.refl (fun _ => False) w6).alloc _).drew) (fun _ _ h => h)) hap
                rw [← hw8] at hP
                have HW8 := Lib.hid (And.intro hB8 (And.intro hf68 (And.intro hP hw8)))
                have HAt := Lib.hid (And.intro hown7 hat)
                clear hV6 ho6 hf16 hX6 hw8 hf68 hB8 hV8 hP hap hown7 hgrow hat hlt hb6
                go_wp2_with fail
                obtain ⟨hB8, hf68, hP, hw8⟩ := HW8.out
                obtain ⟨hE, hVV, hSS⟩ := HE.out
                obtain ⟨hV6, ho6, hf16, hX6⟩ := HV6.out
                have hrw := row4 hB8 (.int .u64 k) (.int .u64 st.n) (.int .i64 st.d) (.slice va4 own.length vc4)
                have hf18 : Fr F w1 w8 := hf16.none_up.trans hf68 (fun j hj h => by
                  rcases h with h | h | h
                  · exact h
                  · rw [h]; exact HX.out.rF
                  · exact HX.out.slF j h)
                have hnF : ¬ More F w1 w7 w.heap.size := by
                  rintro (e | e)
                  · have := HFF.out _ e; omega
                  · have := hw1s; omega
                refine bodyPost_ret (results_row_tmp rfl _ _ w.heap.size 46 #[.int .u64 k, .int .u64 st.n, .int .i64 st.d, .slice va4 own.length vc4] (0, 0) _ rfl ?_ Try.underlying46 rfl (by kernel_rfl)) rfl ?_
                · exact hrw.1
                · have hby8 : Byt w8 (.slice va4 own.length vc4) own := Byt.of_own (own_fr ho6 hf68 (fun j hj => by
                    have h1 := (ho6.lt j hj).1
                    rintro (e | e)
                    · have := HX1.out.blk.lt; omega
                    · have := own_lt HX1.out.slot (k := j) e; omega))
                  refine ⟨o, va4, vc4, HO.out, by rw [hE, hVV]; rfl, ?_, fun j hj _ => ?_, More F w1 w7, ?_, ?_, ?_⟩
                  · rw [hVV]
                    refine hby8.fr hrw.2 (fun j hj e => ?_)
                    have h1 := (ho6.lt j hj).1
                    have := hw1s
                    omega
                  · rw [hVV] at hj
                    have h1 := (ho6.lt j hj).1
                    have := hw1s
                    exact .inr (by omega)
                  · rw [hSS]
                    exact RR.off ⟨_, _, _, _, _, _, hP⟩ hrw.2 hnF
                  · refine Nx.more (by have := hw1s; omega) ?_
                    rw [hw8]
                    simp
                  · exact (HW1r.out.1.none_up.tr hf18).trans hrw.2 (fun j hj h => by rcases h with h | h; exact h; omega)
        | true =>
          have HOs := Lib.hid hos
          clear hos
          obtain ⟨⟨mv, nd⟩, hon⟩ := Option.isSome_iff_exists.1 HOs.out
          obtain ⟨V, hV⟩ : ∃ V, V = mv.v := ⟨_, rfl⟩
          have hV100 : V.length ≤ 100 := by rw [hV]; exact best_len HW.out HO.out mv nd hon
          have hV0 : (o.map (·.1.v)).getD [] = V := by rw [hon, hV]; rfl
          have hV1 : (o.map (·.1.v)).isSome = true := by rw [hon]; rfl
          have hV2 : o.map (·.1.v) = some V := by rw [hon, hV]; rfl
          have HOn := Lib.hid hV2
          have HOv := Lib.hid (show w3.ownsRow w2.heap.size 5 1 (.slice va V.length vc) V.length (u8s V) by have := HOv.out; rw [hV0] at this; exact this)
          rw [hV0, hV1]
          clear hV0 hV1 hV2 hon hV
          have hE : rproE st k own o = 0 := by unfold rproE; rw [HRd.out, if_pos rfl, if_neg hkf, HFn.out]; simp only; rw [if_neg (by rintro ⟨h, _⟩; rw [HOs.out] at h; cases h)]
          have hVV : rproV st k own o = ⟨k, st.n, st.d, V⟩ := by unfold rproV; rw [if_pos hE, HFn.out]; simp only; rw [show (Option.map (fun x => x.1.v) o).getD own = V by rw [HOn.out]; rfl]
          have hSS : rproS st k own o = { st with S := st.S ++ [⟨k, st.n, st.d, V⟩] } := by unfold rproS; rw [if_pos hE, HFn.out]; simp only; rw [show (Option.map (fun x => x.1.v) o).getD own = V by rw [HOn.out]; rfl]
          have HE := Lib.hid (And.intro hE (And.intro hVV hSS))
          clear hE hVV hSS
          have hX := HR.out
          obtain ⟨sv, lv, sl, ml, tv, svs, hX⟩ := hX
          have HX := Lib.hid hX
          have HK := Lib.hid (fun w' (hf : Fr (fun _ => False) w3 w') => And.intro (((hX.blk.fr HF13.out (fun h => h)).fr hf (fun h => h)).cell 5 rfl) (((hX.blk.fr HF13.out (fun h => h)).fr hf (fun h => h)).cell 6 rfl))
          have c5 : w3.cell? ⟨r, 5, none⟩ = some (.int .u64 st.n) := (HK.out w3 (Fr.refl _ w3)).1
          have c6 : w3.cell? ⟨r, 6, none⟩ = some (.int .i64 st.d) := (HK.out w3 (Fr.refl _ w3)).2
          have hbw := HBy.out.fr HF13.out (fun _ _ h => h)
          have hd3 := (Fr.refl (fun _ => False) w3).drew
          have c5a := al_cell c5 (.cells #[.int .u64 0, .int .u64 0, .int .i64 0, .slice none 0 0] 46)
          have c6a := al_cell c6 (.cells #[.int .u64 0, .int .u64 0, .int .i64 0, .slice none 0 0] 46)
          clear hX

          clear b0 b1 b2 b3 b4
          go_upto_region 12 with (fail)
          clear c7
          first
            | go_region_law (first
                | (go_simp
                   go_at_call 66
                   refine (lcopy_any _ own _ (hbw.fr (((Fr.refl (fun _ => False) w3).alloc _).drew) (fun _ _ h => h)) hol).mono ?_
                   rintro e w4 ⟨va4, vc4, rfl, ho4, hf4⟩
                   have hd4 := (((Fr.refl (fun _ => False) w3).alloc (.cells #[.int .u64 0, .int .u64 0, .int .i64 0, .slice none 0 0] 46)).drew).tr hf4
                   obtain ⟨e5, e6⟩ := HK.out _ hd4
                   have hB4 : Blk w4 w3.heap.size 46 #[.int .u64 0, .int .u64 0, .int .i64 0, .slice none 0 0] := ((Blk.new w3 _ _).drew).fr hf4 (fun h => h)
                   have y0 := hB4.cell 0 rfl
                   have y1 := hB4.cell 1 rfl
                   have y2 := hB4.cell 2 rfl
                   have y3 := hB4.cell 3 rfl
                   have y4 := hB4.frozen
                   have hkind := Lib.hid (Nat.le_refl 1))
                | (go_simp
                   go_at_call 66
                   refine (lcopy_any _ own _ (hbw.fr ((Fr.refl (fun _ => False) w3).drew) (fun _ _ h => h)) hol).mono ?_
                   rintro e w4 ⟨va4, vc4, rfl, ho4, hf4⟩
                   have hd4 := ((Fr.refl (fun _ => False) w3).drew).tr hf4
                   obtain ⟨e5, e6⟩ := HK.out _ hd4
                   have e5a := al_cell e5 (.cells #[.int .u64 0, .int .u64 0, .int .i64 0, .slice none 0 0] 46)
                   have e6a := al_cell e6 (.cells #[.int .u64 0, .int .u64 0, .int .i64 0, .slice none 0 0] 46)
                   have hkind := Lib.hid (Nat.le_refl 2)))
            | fail
          all_goals
            first
              | (have hk1 : Hid (1 ≤ 1) := hkind
                 clear y0 y1 y2 y3 y4 hk1
                 have hrw5 := row4 hB4 (.int .u64 k) (.int .u64 st.n) (.int .i64 st.d) (.slice va4 own.length vc4)
                 obtain ⟨w5, hw5⟩ : ∃ w5, w5 = (((w4.setCell ⟨w3.heap.size, 0, none⟩ (.int .u64 k)).setCell ⟨w3.heap.size, 1, none⟩ (.int .u64 st.n)).setCell ⟨w3.heap.size, 2, none⟩ (.int .i64 st.d)).setCell ⟨w3.heap.size, 3, none⟩ (.slice va4 own.length vc4) := ⟨_, rfl⟩
                 obtain ⟨bv, hbv⟩ : ∃ b, b = w3.heap.size := ⟨_, rfl⟩
                 rw [← hw5, ← hbv] at hrw5
                 rw [← hw5, ← hbv]
                 obtain ⟨hV5, hf5⟩ := hrw5
                 have hbv4 : bv < w4.heap.size := by rw [hbv]; exact hB4.lt
                 have hf35 : Fr (fun _ => False) w3 w5 := hd4.trans hf5 (fun x hx h => by rcases h with h | h; exact h; omega)
                 have hv4b : ∀ j, (Value.slice va4 own.length vc4).ownBlock = some j → w3.heap.size ≤ j ∧ j ≠ bv := fun j hj => by
                   have := (ho4.lt j hj).1
                   rw [hbv]
                   simp [World.drew] at this
                   omega
                 have ho5 := own_base (own_fr ho4 hf5 (fun j hj => (hv4b j hj).2))
                 have hbv3 : w3.heap.size ≤ bv := by omega
                 clear hB4)
              | (obtain ⟨w5, hw5⟩ : ∃ w5, w5 = w4.alloc (.cells #[.int .u64 k, .int .u64 st.n, .int .i64 st.d, .slice va4 own.length vc4] 46) := ⟨_, rfl⟩
                 obtain ⟨bv, hbv⟩ : ∃ b, b = w4.heap.size := ⟨_, rfl⟩
                 clear e5a e6a
                 have hV5 : Blk w5 bv 46 #[.int .u64 k, .int .u64 st.n, .int .i64 st.d, .slice va4 own.length vc4] := by rw [hw5, hbv]; exact Blk.new _ _ _
                 have hf5 : Fr (fun _ => False) w4 w5 := by rw [hw5]; exact (Fr.refl _ w4).alloc _
                 rw [← hw5, ← hbv]
                 have hf35 := hd4.tr hf5
                 have hv4b : ∀ j, (Value.slice va4 own.length vc4).ownBlock = some j → w3.heap.size ≤ j ∧ j ≠ bv := fun j hj => by
                   have := ho4.lt j hj
                   have := ((Fr.refl (fun _ => False) w3).drew).size
                   omega
                 have ho5 := own_base (own_fr ho4 hf5 (fun _ _ h => h))
                 have hbv3 : w3.heap.size ≤ bv := by have := hd4.size; omega)
            clear c5 c6 c5a c6a e5 e6
            have HF5 := Lib.hid (And.intro hf35 (And.intro hv4b hbv3))
            clear hw5 hf5 hbv hd4 hkind

            have hV6 : Blk (w5.setCell ⟨bv, 3, none⟩ (.slice va V.length vc)) bv 46 #[.int .u64 k, .int .u64 st.n, .int .i64 st.d, .slice va V.length vc] := by simpa using hV5.set_ 3 (.slice va V.length vc)
            have ho6 : (w5.setCell ⟨bv, 3, none⟩ (.slice va V.length vc)).ownsRow w1.heap.size 5 1 (.slice va V.length vc) V.length (u8s V) := by
              refine own_fr (own_up (own_base (own_fr HOv.out HF5.out.1 (fun _ _ h => h))) (fun j hj => by have := (HOv.out.lt j hj).1; have := HF12.out.1.size; have := hw1s; omega)) (Fr.set1 w5 bv 3 _) (fun j hj e => ?_)
              have := own_lt HOv.out hj
              have := HF5.out.2.2
              omega
            have v3 := hV5.cell 3 rfl
            have f3 := hV5.frozen 3
            go_upto_region 15 with (fail)
            clear v3 f3
            obtain ⟨w6, hw6⟩ : ∃ w6, w6 = w5.setCell ⟨bv, 3, none⟩ (.slice va V.length vc) := ⟨_, rfl⟩
            rw [← hw6] at hV6 ho6 ⊢
            have hf36 : Fr (fun _ => False) w3 w6 := by
              rw [hw6]
              exact HF5.out.1.setCell (p := ⟨bv, 3, none⟩) (fun hlt => by have := HF5.out.2.2; simp only at hlt; omega) _
            have hl100 := hV100
            clear hw6

            have HF6 := Lib.hid hf36
            have hf16 : Fr (fun _ => False) w1 w6 := HW1r.out.2.tr (HF12.out.2.tr hf36)
            have hX1 := HX.out.fr HW1r.out.1 (fun _ _ h => h)
            have hX6 := hX1.fr hf16 (fun _ _ h => h)
            have hrow := hX6.slot
            obtain ⟨la, lc, rfl⟩ := own_sl4 hrow
            have j0 := hX6.blk.cell 9 rfl
            have jf := hX6.blk.frozen 9
            have j1 := hV6.cell 0 rfl
            have j2 := hV6.cell 1 rfl
            have j3 := hV6.cell 2 rfl
            have j4 := hV6.cell 3 rfl
            have hrb : ∀ j, (Value.slice la st.S.length lc).ownBlock = some j → j ≠ r := fun j hj => own_blk_ne hrow hX6.blk (by decide) j hj
            have HB := Lib.hid (fun w' (hf : Fr (fun j => (Value.slice la st.S.length lc).ownBlock = some j) w6 w') => hX6.blk.fr hf (fun h => hrb r h rfl))
            have hr6 := hX6.blk.lt
            have hv6 := hV6.lt
            have HX1 := Lib.hid hX1
            have HV6 := Lib.hid (And.intro hV6 (And.intro ho6 (And.intro hf16 hX6)))
            clear hX1 hX6 hV6 ho6 hf16 hf36 hV5 hd3 hbw ho4 hf4 hf35 HK ho5 hv4b
            go_upto_region 15 with (fail)
            first
              | go_region_law (first
                  | (refine step_append_lies _ (by rfl) _ _ _ (by rfl) 0 46 i0 _ 4 48 Try.underlying51 hi0 hz0 hz1 hz2 rfl (by omega) _ _ _ (by rfl) (own_fr hrow (((Fr.refl (fun _ => False) w6).alloc _).drew) (fun _ _ h => h))
                       ⟨w6.heap.size, 0, none⟩ 1 1 [.int .u64 k, .int .u64 st.n, .int .i64 st.d, .slice va V.length vc] (by rfl) (by rfl) (World.news_of_block (cs := #[.int .u64 k, .int .u64 st.n, .int .i64 st.d, .slice va V.length vc]) (t := 46) (fr := (0, 0)) (heap_alloc_new w6 _)) (by simp [Value.oneCell'])
                       (by omega) (by simp only [maxLen]; omega) (by omega) (by omega) (w6.heap.size + 1) (by simp [World.drew]) ?_
                     intro gg lc' w7 hown7 hgrow hat hlt
                     have hf7 : Fr (fun j => (Value.slice la st.S.length lc).ownBlock = some j) w6 w7 := Fr.grown (((Fr.refl (fun j => (Value.slice la st.S.length lc).ownBlock = some j) w6).alloc _).drew) hgrow (fun j hj _ => hj)
                     have q1 := (HB.out w7 hf7).cell 9 rfl
                     have q2 := (HB.out w7 hf7).frozen 9))
              | fail
            all_goals
              clear j0 jf j1 j2 j3 j4 q1 q2
              obtain ⟨w8, hw8⟩ : ∃ w8, w8 = w7.setCell ⟨r, 9, none⟩ (.slice (some ⟨gg, 0, none⟩) (st.S.length + 1) lc') := ⟨_, rfl⟩
              rw [← hw8]
              obtain ⟨hV6, ho6, hf16, hX6⟩ := HV6.out
              have hf68 : Fr (fun j => j = r ∨ (Value.slice la st.S.length lc).ownBlock = some j) w6 w8 := by
                rw [hw8]
                exact (hf7.mono (fun _ _ h => .inr h)).setCell (p := ⟨r, 9, none⟩) (fun _ => .inl rfl) _
              have hb6 : Blk w6 w.heap.size 46 _ := HB3.out.fr HF6.out (fun h => h)
              have hnb : ¬ (w.heap.size = r ∨ (Value.slice la st.S.length lc).ownBlock = some w.heap.size) := by
                rintro (e | e)
                · exact hb6.ne_ hX6.blk (by decide) e
                · have := HFF.out _ (HX.out.slF _ e); omega
              have hnv : ¬ (bv = r ∨ (Value.slice la st.S.length lc).ownBlock = some bv) := by
                rintro (e | e)
                · exact hV6.ne_ hX6.blk (by decide) e
                · have := HFF.out _ (HX.out.slF _ e); have := HF5.out.2.2; have := HF6.out.size; have := hz34; omega
              have hB8 := hb6.fr hf68 hnb
              have hV8 := hV6.fr hf68 hnv
              have b0 := hB8.cell 0 rfl
              have b1 := hB8.cell 1 rfl
              have b2 := hB8.cell 2 rfl
              have b3 := hB8.cell 3 rfl
              have b4 := hB8.frozen
              have v0 := hV8.cell 0 rfl
              have v1 := hV8.cell 1 rfl
              have v2 := hV8.cell 2 rfl
              have v3 := hV8.cell 3 rfl
              have hap : Appended 0 46 4 _ (Value.slice la st.S.length lc) st.S.length 1 _ [.int .u64 k, .int .u64 st.n, .int .i64 st.d, .slice va V.length vc] (.slice (some ⟨gg, 0, none⟩) (st.S.length + 1) lc') w7 :=
                ⟨hown7, hgrow, by rcases hat with h | h; exact .inl h.symm; right; rw [h]; simp [Value.ownBlock, World.drew]⟩
              have hP := HX1.out.putSlot (((hf16.alloc _).drew)) ⟨k, st.n, st.d, V⟩ ⟨Nat.not_lt.1 hkf, hk64, rfl, rfl, hl100⟩ HFn.out (own_fr ho6 (((Fr.refl (fun _ => False) w6).alloc _).drew) (fun _ _ h => h)) hap
              rw [← hw8] at hP
              have HW8 := Lib.hid (And.intro hB8 (And.intro hf68 (And.intro hP hw8)))
              have HAt := Lib.hid (And.intro hown7 hat)
              clear hV6 ho6 hf16 hX6 hw8 hf68 hB8 hV8 hP hap hown7 hgrow hat hlt hb6
              go_wp2_with fail
              obtain ⟨hB8, hf68, hP, hw8⟩ := HW8.out
              obtain ⟨hE, hVV, hSS⟩ := HE.out
              obtain ⟨hV6, ho6, hf16, hX6⟩ := HV6.out
              have hrw := row4 hB8 (.int .u64 k) (.int .u64 st.n) (.int .i64 st.d) (.slice va V.length vc)
              have hf18 : Fr F w1 w8 := hf16.none_up.trans hf68 (fun j hj h => by
                rcases h with h | h | h
                · exact h
                · rw [h]; exact HX.out.rF
                · exact HX.out.slF j h)
              have hnF : ¬ More F w1 w7 w.heap.size := by
                rintro (e | e)
                · have := HFF.out _ e; omega
                · have := hw1s; omega
              refine bodyPost_ret (results_row_tmp rfl _ _ w.heap.size 46 #[.int .u64 k, .int .u64 st.n, .int .i64 st.d, .slice va V.length vc] (0, 0) _ rfl ?_ Try.underlying46 rfl (by kernel_rfl)) rfl ?_
              · exact hrw.1
              · have hby8 : Byt w8 (.slice va V.length vc) V := Byt.of_own (own_fr ho6 hf68 (fun j hj => by
                  have h1 := (ho6.lt j hj).1
                  rintro (e | e)
                  · have := HX1.out.blk.lt; omega
                  · have := own_lt HX1.out.slot (k := j) e; omega))
                refine ⟨o, va, vc, HO.out, by rw [hE, hVV]; rfl, ?_, fun j hj _ => ?_, More F w1 w7, ?_, ?_, ?_⟩
                · rw [hVV]
                  refine hby8.fr hrw.2 (fun j hj e => ?_)
                  have h1 := (ho6.lt j hj).1
                  have := hw1s
                  omega
                · rw [hVV] at hj
                  have h1 := (ho6.lt j hj).1
                  have := hw1s
                  exact .inr (by omega)
                · rw [hSS]
                  exact RR.off ⟨_, _, _, _, _, _, hP⟩ hrw.2 hnF
                · refine Nx.more (by have := hw1s; omega) ?_
                  rw [hw8]
                  simp
                · exact (HW1r.out.1.none_up.tr hf18).trans hrw.2 (fun j hj h => by rcases h with h | h; exact h; omega)
      · have hX := HR.out
        obtain ⟨sv, lv, sl, ml, tv, svs, hX⟩ := hX
        obtain ⟨g, lcs, s, e1, q0, q1, q2, q3, hbs, hoff⟩ := hX.slot_at hi
        have hE : rproE st k own o = 0 := by unfold rproE; rw [HRd.out, if_pos rfl, if_neg hkf, hfn]
        have hVV : rproV st k own o = v := by unfold rproV; rw [if_pos hE, hfn]
        have hSS : rproS st k own o = st := by unfold rproS; rw [if_pos hE, hfn]
        have HE := Lib.hid (And.intro hE (And.intro hVV hSS))
        subst e1
        have c9 : w3.cell? ⟨r, 9, none⟩ = some (.slice (some ⟨g, 0, none⟩) st.S.length lcs) := (hX.blk.fr HF13.out (fun h => h)).cell 9 rfl
        have q0 := HF13.out.cell q0 (fun h => h)
        have q1 := HF13.out.cell q1 (fun h => h)
        have q2 := HF13.out.cell q2 (fun h => h)
        have q3 := HF13.out.cell q3 (fun h => h)
        have hil : (i : Int) < (st.S.length : Int) := by have := (List.getElem?_eq_some_iff.1 hi).1; omega
        have hi0 : (0 : Int) ≤ (i : Int) := by omega
        have hoF : ∀ j, s.ownBlock = some j → v.v ≠ [] → F j := fun j hj hn => Classical.byContradiction fun hc => hoff j hj hn (.inl hc)
        have HBs := Lib.hid (And.intro hbs hoF)
        obtain ⟨sa, sc', rfl, -, -⟩ := hbs
        clear hX hoff hoF hE hVV hSS hi hvk hfn
        go_wp2_with fail
        obtain ⟨hE, hVV, hSS⟩ := HE.out
        have hrw := row4 HB3.out (.int .u64 v.s) (.int .u64 v.n) (.int .i64 v.d) (.slice sa v.v.length sc')
        have hfw : Fr (fun _ => False) w _ := HF13.out.trans hrw.2 (fun x hx h => by rcases h with h | h; exact h; omega)
        refine bodyPost_ret (results_row_tmp rfl _ _ w.heap.size 46 #[.int .u64 v.s, .int .u64 v.n, .int .i64 v.d, .slice sa v.v.length sc'] (0, 0) _ rfl ?_ Try.underlying46 rfl (by kernel_rfl)) rfl ?_
        · exact hrw.1
        · refine ⟨o, sa, sc', HO.out, by rw [hE, hVV]; rfl, by rw [hVV]; exact HBs.out.1.fr hfw (fun _ _ h => h), fun j hj hn => .inl (by rw [hVV] at hj hn; exact HBs.out.2 j hj hn), F, by rw [hSS]; exact HR.out.none_ hfw, Nx.refl _ _ _, hfw.none_up⟩
end Go.Proofs.Ytkpfgoalohbfeaa

