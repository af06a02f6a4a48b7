/- The proposer beside the document's: how their states go together. -/
import Derived.Test.YtliljjlegofmkaaPRg
namespace Go.Proofs.Ytliljjlegofmkaa
open Go.RowKit

/-- The document's Propose, o what has to be there. -/
def rproE (st : Rs) (k : Nat) (own : List UInt8) (o : Option (Vt × Nat)) : Int :=
  if rreadyB st then (if k < st.f then 2 else match findV st.S k with | some _ => 0 | none => if o.isSome = false ∧ 100 < own.length then 3 else 0) else 100
def rproV (st : Rs) (k : Nat) (own : List UInt8) (o : Option (Vt × Nat)) : Vt :=
  if rproE st k own o = 0 then (match findV st.S k with | some v => v | none => ⟨k, st.n, st.d, (o.map (·.1.v)).getD own⟩) else ⟨0, 0, 0, []⟩
def rproS (st : Rs) (k : Nat) (own : List UInt8) (o : Option (Vt × Nat)) : Rs :=
  if rproE st k own o = 0 then (match findV st.S k with | some _ => st | none => { st with S := st.S ++ [⟨k, st.n, st.d, (o.map (·.1.v)).getD own⟩] }) else st

def nat2 (x : Vt × Int) : Vt × Nat := (x.1, x.2.toNat)
structure Rel (p : Ps) (st : Rs) : Prop where
  q : st.q = p.q
  n : st.n = p.n
  d : st.d = p.d
  f : st.f = p.f
  set : ∀ i, p.set.testBit i = toldBit st.L i
  mu : ∀ k, BestR st.L k ((p.mu k).map nat2)
  mn : ∀ k v nd, p.mu k = some (v, nd) → 0 ≤ nd
  sl : ∀ k, (p.sl k).map (·.1) = findV st.S k
  mks : ∀ k v X, p.sl k = some (v, X) → ∀ i, X.testBit i = markBit st.M k i
  nm : ∀ m ∈ st.M, (findV st.S m.2).isSome = true

theorem Rel.new (q : Qu) (n : Nat) (d : Int) (f : Nat) : Rel (newP q n d f) (rs0 q n d f) :=
  ⟨rfl, rfl, rfl, rfl, fun i => by simp [newP, rs0, toldBit], fun k => .inl ⟨rfl, fun t ht => by simp [rs0] at ht⟩, fun k v nd h => by simp [newP] at h,
    fun k => rfl, fun k v X h => by simp [newP] at h, fun m hm => by simp [rs0] at hm⟩

section
variable {p : Ps} {st : Rs}
theorem rising (n : Nat) (d : Int) : ∀ (l : List Vt) (last : Nat), rightV n d last l = true → ∀ a ∈ l, ∀ b ∈ l, a.s = b.s → a = b
  | [], _, _, a, ha, _, _, _ => by simp at ha
  | v :: l, last, h, a, ha, b, hb, hs => by
    simp only [rightV, Bool.and_eq_true] at h
    have hgt : ∀ x ∈ l, v.s < x.s := fun x hx => by
      obtain ⟨i, hi⟩ := List.getElem?_of_mem hx
      exact (rightV_get n d l v.s h.2 i x hi).1
    rcases List.mem_cons.1 ha with h1 | h1
    · rcases List.mem_cons.1 hb with h2 | h2
      · rw [h1, h2]
      · have := hgt b h2; rw [h1] at hs; omega
    · rcases List.mem_cons.1 hb with h2 | h2
      · have := hgt a h1; rw [h2] at hs; omega
      · exact rising n d l v.s h.2 a h1 b h2 hs
theorem told_one {st : Rs} (hw : RWf st) {t u : Nat × List Vt} (ht : t ∈ st.L) (hu : u ∈ st.L) (h : t.1 = u.1) : t = u := by
  obtain ⟨i, hi⟩ := List.getElem?_of_mem ht
  obtain ⟨j, hj⟩ := List.getElem?_of_mem hu
  have hp := List.pairwise_iff_getElem.1 hw.dist
  obtain ⟨hi1, hi2⟩ := List.getElem?_eq_some_iff.1 hi
  obtain ⟨hj1, hj2⟩ := List.getElem?_eq_some_iff.1 hj
  rcases Nat.lt_trichotomy i j with hij | hij | hij
  · exact absurd (by rw [hi2, hj2]; exact h) (hp i j hi1 hj1 hij)
  · subst hij; rw [hi] at hj; exact Option.some.inj hj
  · exact absurd (by rw [hi2, hj2]; exact h.symm) (hp j i hj1 hi1 hij)
theorem BestR.inj {st : Rs} (hw : RWf st) {k : Nat} {o o' : Option (Vt × Nat)} (h : BestR st.L k o) (h' : BestR st.L k o') : o = o' := by
  rcases h with ⟨rfl, h1⟩ | ⟨v, t, rfl, ht, hv, hs, h1⟩
  · rcases h' with ⟨rfl, _⟩ | ⟨v', t', rfl, ht', hv', hs', _⟩
    · rfl
    · exact absurd hs' (h1 t' ht' v' hv')
  · rcases h' with ⟨rfl, h2⟩ | ⟨v', t', rfl, ht', hv', hs', h2⟩
    · exact absurd hs (h2 t ht v hv)
    · obtain ⟨a1, a2⟩ := h1 t' ht' v' hv' hs'
      obtain ⟨b1, b2⟩ := h2 t ht v hv hs
      rw [lessB_no] at a1 b1
      have a3 := a2 (by omega) (by omega)
      have b3 := b2 (by omega) (by omega)
      have hte : t = t' := told_one hw ht ht' (by omega)
      subst hte
      have hve : v = v' := rising st.n st.d t.2 _ (hw.vot t ht) v hv v' hv' (by omega)
      rw [hve]

/-- A vote more, of the last told. -/
theorem BestR.put {L : List (Nat × List Vt)} {A : List Vt} {x k : Nat} {v : Vt} {mu : Nat → Option (Vt × Int)} (h : BestR (L ++ [(x, A)]) k ((mu k).map nat2)) (h0 : ∀ v nd, mu k = some (v, nd) → 0 ≤ nd) :
    BestR (L ++ [(x, A ++ [v])]) k ((putM (x : Int) mu v k).map nat2) ∧ ∀ v' nd, putM (x : Int) mu v k = some (v', nd) → 0 ≤ nd := by
  have mem : ∀ u ∈ L ++ [(x, A ++ [v])], ∀ y ∈ u.2, (∃ u' ∈ L ++ [(x, A)], u'.1 = u.1 ∧ y ∈ u'.2) ∨ (u.1 = x ∧ y = v) := fun u hu y hy => by
    rcases List.mem_append.1 hu with hu | hu
    · exact .inl ⟨u, List.mem_append_left _ hu, rfl, hy⟩
    · have : u = (x, A ++ [v]) := by simpa using hu
      subst this
      rcases List.mem_append.1 hy with hy | hy
      · exact .inl ⟨(x, A), List.mem_append_right _ (by simp), rfl, hy⟩
      · exact .inr ⟨rfl, by simpa using hy⟩
  have up : ∀ t ∈ L ++ [(x, A)], ∀ y ∈ t.2, ∃ t' ∈ L ++ [(x, A ++ [v])], t'.1 = t.1 ∧ y ∈ t'.2 := fun t ht y hy => by
    rcases List.mem_append.1 ht with ht | ht
    · exact ⟨t, List.mem_append_left _ ht, rfl, hy⟩
    · have : t = (x, A) := by simpa using ht
      subst this
      exact ⟨(x, A ++ [v]), List.mem_append_right _ (by simp), rfl, List.mem_append_left _ hy⟩
  -- the rows as they were
  have keep : v.s ≠ k → BestR (L ++ [(x, A ++ [v])]) k ((mu k).map nat2) := fun hk => by
    rcases h with ⟨h1, h2⟩ | ⟨m, t, h1, ht, hm, hs, h2⟩
    · refine .inl ⟨h1, fun u hu y hy => ?_⟩
      rcases mem u hu y hy with ⟨u', hu', _, hy'⟩ | ⟨_, rfl⟩
      · exact h2 u' hu' y hy'
      · exact hk
    · obtain ⟨t', ht', he, hm'⟩ := up t ht m hm
      refine .inr ⟨m, t', by rw [h1, he], ht', hm', hs, fun u hu y hy hys => ?_⟩
      rcases mem u hu y hy with ⟨u', hu', hue, hy'⟩ | ⟨_, rfl⟩
      · rw [← hue, he]; exact h2 u' hu' y hy' hys
      · exact absurd hys hk
  by_cases hvk : v.s = k
  · cases hm : mu k with
    | none =>
      have hp : putM (x : Int) mu v k = some (v, (x : Int)) := by
        unfold putM
        rw [hvk, hm]
        show upd mu k (v, (x : Int)) k = _
        unfold upd; rw [if_pos rfl]
      rw [hp]
      refine ⟨?_, fun v' nd e => by injection e with e; injection e with e1 e2; omega⟩
      rcases h with ⟨h1, h2⟩ | ⟨m, t, h1, ht, hm', hs, h2⟩
      · refine .inr ⟨v, (x, A ++ [v]), by simp [nat2], List.mem_append_right _ (by simp), List.mem_append_right _ (by simp), hvk, fun u hu y hy hys => ?_⟩
        rcases mem u hu y hy with ⟨u', hu', _, hy'⟩ | ⟨hux, rfl⟩
        · exact absurd hys (h2 u' hu' y hy')
        · exact ⟨by rw [lessB_no]; omega, fun _ _ => by rw [hux]; exact Nat.le_refl _⟩
      · rw [hm] at h1; simp at h1
    | some z =>
      obtain ⟨m, nd⟩ := z
      have hnd := h0 m nd hm
      rcases h with ⟨h1, h2⟩ | ⟨m', t, h1, ht, hm', hs, h2⟩
      · rw [hm] at h1; simp at h1
      · rw [hm] at h1
        have e1 : m = m' ∧ nd.toNat = t.1 := by simpa [nat2] using h1
        obtain ⟨rfl, e2⟩ := e1
        by_cases hc : (lessB v.n v.d m.n m.d || (decide (v.n = m.n) && decide (v.d = m.d) && decide (nd < (x : Int)))) = true
        · have hp : putM (x : Int) mu v k = some (m, nd) := by
            unfold putM
            rw [hvk, hm]
            show (if _ then mu else _) k = _
            rw [if_pos hc, hm]
          rw [hp]
          refine ⟨?_, fun v' nd' e => by injection e with e; injection e with e1 e2; omega⟩
          obtain ⟨t', ht', he, hmt⟩ := up t ht m hm'
          refine .inr ⟨m, t', by simp [nat2]; omega, ht', hmt, hs, fun u hu y hy hys => ?_⟩
          rcases mem u hu y hy with ⟨u', hu', hue, hy'⟩ | ⟨hux, rfl⟩
          · rw [← hue, he]; exact h2 u' hu' y hy' hys
          · rw [Bool.or_eq_true, lessB_iff] at hc
            simp only [Bool.and_eq_true, decide_eq_true_eq] at hc
            exact ⟨by rw [lessB_no]; omega, fun _ _ => by omega⟩
        · have hp : putM (x : Int) mu v k = some (v, (x : Int)) := by
            unfold putM
            rw [hvk, hm]
            show (if _ then mu else _) k = _
            rw [if_neg hc]
            unfold upd; rw [if_pos rfl]
          rw [hp]
          refine ⟨?_, fun v' nd' e => by injection e with e; injection e with e1 e2; omega⟩
          rw [Bool.or_eq_true, lessB_iff] at hc
          simp only [Bool.and_eq_true, decide_eq_true_eq] at hc
          refine .inr ⟨v, (x, A ++ [v]), by simp [nat2], List.mem_append_right _ (by simp), List.mem_append_right _ (by simp), hvk, fun u hu y hy hys => ?_⟩
          rcases mem u hu y hy with ⟨u', hu', hue, hy'⟩ | ⟨hux, rfl⟩
          · obtain ⟨h3, h4⟩ := h2 u' hu' y hy' hys
            rw [lessB_no] at h3 ⊢
            refine ⟨by omega, fun e3 e4 => ?_⟩
            have h5 := h4 (by omega) (by omega)
            show x ≤ u.1
            rw [← hue]
            omega
          · exact ⟨by rw [lessB_no]; omega, fun _ _ => by rw [hux]; exact Nat.le_refl _⟩
  · have hp : putM (x : Int) mu v k = mu k := by
      unfold putM
      have hu : ∀ z, upd mu v.s z k = mu k := fun z => by unfold upd; rw [if_neg (fun e => hvk e.symm)]
      cases hm : mu v.s with
      | none => exact hu _
      | some z =>
        obtain ⟨m, nd⟩ := z
        show (if _ then mu else _) k = _
        split
        · rfl
        · exact hu _
    rw [hp]
    exact ⟨keep hvk, h0⟩
theorem BestR.fold {L : List (Nat × List Vt)} {x k : Nat} : ∀ (l A : List Vt) {mu : Nat → Option (Vt × Int)}, BestR (L ++ [(x, A)]) k ((mu k).map nat2) → (∀ v nd, mu k = some (v, nd) → 0 ≤ nd) →
    BestR (L ++ [(x, A ++ l)]) k ((l.foldl (putM (x : Int)) mu k).map nat2) ∧ ∀ v' nd, l.foldl (putM (x : Int)) mu k = some (v', nd) → 0 ≤ nd
  | [], A, mu, h, h0 => by rw [List.append_nil]; exact ⟨h, h0⟩
  | v :: l, A, mu, h, h0 => by
    obtain ⟨h1, h2⟩ := BestR.put (v := v) h h0
    have := BestR.fold l (A ++ [v]) (mu := putM (x : Int) mu v) h1 h2
    rw [List.append_assoc] at this
    exact this
theorem BestR.nil {L : List (Nat × List Vt)} {x k : Nat} {o : Option (Vt × Nat)} (h : BestR L k o) : BestR (L ++ [(x, [])]) k o := by
  rcases h with ⟨h1, h2⟩ | ⟨m, t, h1, ht, hm, hs, h2⟩
  · refine .inl ⟨h1, fun u hu y hy => ?_⟩
    rcases List.mem_append.1 hu with hu | hu
    · exact h2 u hu y hy
    · have : u = (x, []) := by simpa using hu
      subst this; simp at hy
  · refine .inr ⟨m, t, h1, List.mem_append_left _ ht, hm, hs, fun u hu y hy hys => ?_⟩
    rcases List.mem_append.1 hu with hu | hu
    · exact h2 u hu y hy hys
    · have : u = (x, []) := by simpa using hu
      subst this; simp at hy

theorem Rel.ready (h : Rel p st) : rreadyB st = readyB p := by
  unfold rreadyB readyB
  rw [h.q]
  exact isQ_congr fun i _ => (h.set i).symm
theorem Rel.node (h : Rel p st) (x : Int) : inN st.q x = nodeB p x := by unfold inN nodeB; rw [h.q]
theorem Rel.prmE (h : Rel p st) (x : Int) (l : List Vt) : rprmE st x l = prmE p x l := by
  unfold rprmE Go.Proofs.Ytliljjlegofmkaa.prmE
  rw [h.node, h.n, h.d, h.f]
theorem Rel.prm (h : Rel p st) (x : Int) (l : List Vt) : Rel (prmP p x l) (rprmS st x l) := by
  unfold prmP rprmS
  rw [h.prmE, h.set]
  by_cases hc : Go.Proofs.Ytliljjlegofmkaa.prmE p x l = 0 ∧ toldBit st.L x.toNat = false
  · rw [if_pos hc, if_pos hc]
    have hx := prmE_node hc.1
    obtain ⟨y, rfl⟩ := Int.eq_ofNat_of_zero_le hx.1
    rw [Int.toNat_natCast]
    have hb : ∀ k, _ := fun k => BestR.fold (L := st.L) (x := y) (k := k) l [] (BestR.nil (h.mu k)) (h.mn k)
    refine ⟨h.q, h.n, h.d, h.f, fun i => ?_, fun k => (hb k).1, fun k => (hb k).2, h.sl, h.mks, h.nm⟩
    show (p.set ||| 2 ^ y).testBit i = toldBit (st.L ++ [(y, l)]) i
    rw [Nat.testBit_or, Nat.testBit_two_pow, h.set]
    unfold toldBit
    rw [List.any_append]
    simp
    congr 1
  · rw [if_neg hc, if_neg hc]
    exact h
theorem Rel.accE (h : Rel p st) (x : Int) (k : Nat) : raccE st x k = accE p x k := by
  unfold raccE Go.Proofs.Ytliljjlegofmkaa.accE
  rw [h.node, ← h.sl, Option.isSome_map]
theorem findV_app (S : List Vt) (v : Vt) (k : Nat) : findV (S ++ [v]) k = match findV S k with | some u => some u | none => if v.s = k then some v else none := by
  unfold findV
  rw [List.find?_append]
  cases h : S.find? (fun v => v.s == k) with
  | some u => simp
  | none =>
    by_cases hk : v.s = k
    · simp [hk]
    · simp [hk]
theorem Rel.acc (h : Rel p st) (x : Int) (k : Nat) : Rel (accP p x k) (raccS st x k) := by
  unfold raccS
  rw [h.accE]
  unfold accP Go.Proofs.Ytliljjlegofmkaa.accE
  by_cases hn : nodeB p x = true
  · rw [if_pos hn, if_pos hn]
    have hs := h.sl k
    have hx : 0 ≤ x := by unfold nodeB at hn; rw [decide_eq_true_eq] at hn; exact hn.1
    obtain ⟨y, rfl⟩ := Int.eq_ofNat_of_zero_le hx
    rw [Int.toNat_natCast]
    cases hk : p.sl k with
    | none => simp; exact h
    | some z =>
      obtain ⟨v, X⟩ := z
      rw [hk] at hs
      simp only [Option.isSome_some, if_true]
      have key : ∀ j, markBit (st.M ++ [(y, k)]) j = fun i => markBit st.M j i || (decide (k = j) && decide (y = i)) := fun j => by
        funext i; unfold markBit; rw [List.any_append]; simp; congr 1
      refine ⟨h.q, h.n, h.d, h.f, h.set, h.mu, h.mn, fun j => ?_, fun j v' X' hj i => ?_, fun m hm => ?_⟩
      · show (upd p.sl k (v, X ||| 2 ^ y) j).map (·.1) = findV st.S j
        unfold upd
        by_cases hjk : j = k
        · subst hjk; rw [if_pos rfl, ← hs]; rfl
        · rw [if_neg hjk]; exact h.sl j
      · show X'.testBit i = markBit (st.M ++ [(y, k)]) j i
        rw [key]
        have hj : upd p.sl k (v, X ||| 2 ^ y) j = some (v', X') := hj
        unfold upd at hj
        by_cases hjk : j = k
        · subst hjk
          rw [if_pos rfl] at hj
          injection hj with hj
          injection hj with h1 h2
          subst h1 h2
          rw [Nat.testBit_or, Nat.testBit_two_pow, h.mks j v X hk]
          simp
        · rw [if_neg hjk] at hj
          rw [h.mks j v' X' hj i]
          have : ¬ k = j := fun e => hjk e.symm
          simp [this]
      · rcases List.mem_append.1 hm with hm | hm
        · exact h.nm m hm
        · have : m = (y, k) := by simpa using hm
          subst this
          show (findV st.S k).isSome = true
          rw [← hs]; rfl
  · rw [if_neg hn, if_neg hn, if_neg (by omega)]
    exact h
theorem best_len {st : Rs} (hw : RWf st) {k : Nat} {o : Option (Vt × Nat)} (h : BestR st.L k o) : ∀ v nd, o = some (v, nd) → v.v.length ≤ 100 := fun v nd e => by
  rcases h with ⟨rfl, _⟩ | ⟨m, t, rfl, ht, hm, _, _⟩
  · simp at e
  · injection e with e
    injection e with e1 e2
    subst e1
    obtain ⟨i, hi⟩ := List.getElem?_of_mem hm
    exact (rightV_get _ _ _ _ (hw.vot t ht) i m hi).2.2.2
theorem Rel.muB (h : Rel p st) (hw : RWf st) {k : Nat} {o : Option (Vt × Nat)} (ho : BestR st.L k o) : o.map (·.1.v) = Go.Proofs.Ytliljjlegofmkaa.muB p k := by
  rw [BestR.inj hw ho (h.mu k)]
  unfold Go.Proofs.Ytliljjlegofmkaa.muB
  rw [Option.map_map]
  rfl
theorem Rel.proE (h : Rel p st) (hw : RWf st) {k : Nat} {own : List UInt8} {o : Option (Vt × Nat)} (ho : BestR st.L k o) : rproE st k own o = proE p k own := by
  unfold rproE Go.Proofs.Ytliljjlegofmkaa.proE
  rw [h.ready, h.f, ← h.sl]
  cases hs : p.sl k with
  | some z => rfl
  | none =>
    have hl : (o.isSome = false ∧ 100 < own.length) ↔ 100 < (proVal p k own).length := by
      unfold proVal
      rw [← h.muB hw ho]
      cases ho' : o with
      | none => simp
      | some z =>
        obtain ⟨v, nd⟩ := z
        have := best_len hw ho v nd ho'
        simp; omega
    simp only [Option.map_none, hl]
theorem Rel.proV (h : Rel p st) (hw : RWf st) {k : Nat} {own : List UInt8} {o : Option (Vt × Nat)} (ho : BestR st.L k o) : rproV st k own o = proV p k own := by
  unfold rproV Go.Proofs.Ytliljjlegofmkaa.proV
  rw [h.proE hw ho, ← h.sl, h.n, h.d, h.muB hw ho]
  cases hs : p.sl k with
  | some z => rfl
  | none => rfl
theorem Rel.pro (h : Rel p st) (hw : RWf st) {k : Nat} {own : List UInt8} {o : Option (Vt × Nat)} (ho : BestR st.L k o) : Rel (proP p k own) (rproS st k own o) := by
  unfold rproS proP
  rw [h.proE hw ho]
  by_cases hc : Go.Proofs.Ytliljjlegofmkaa.proE p k own = 0
  · rw [if_pos hc, if_pos hc]
    have hs := h.sl k
    cases hk : p.sl k with
    | some z => rw [hk] at hs; rw [← hs]; exact h
    | none =>
      rw [hk] at hs
      rw [← hs]
      show Rel { p with sl := upd p.sl k (⟨k, p.n, p.d, proVal p k own⟩, 0) } { st with S := st.S ++ [⟨k, st.n, st.d, (o.map (·.1.v)).getD own⟩] }
      have hv : (o.map (·.1.v)).getD own = proVal p k own := by unfold proVal; rw [h.muB hw ho]
      have he : (⟨k, st.n, st.d, proVal p k own⟩ : Vt) = ⟨k, p.n, p.d, proVal p k own⟩ := by rw [h.n, h.d]
      rw [hv, he]
      refine ⟨h.q, h.n, h.d, h.f, h.set, h.mu, h.mn, fun j => ?_, fun j v' X' hj i => ?_, fun m hm => ?_⟩
      · show (upd p.sl k (⟨k, p.n, p.d, proVal p k own⟩, 0) j).map (·.1) = findV (st.S ++ [⟨k, p.n, p.d, proVal p k own⟩]) j
        rw [findV_app]
        unfold upd
        by_cases hjk : j = k
        · subst hjk; rw [if_pos rfl, ← hs]; simp
        · rw [if_neg hjk, h.sl j]
          have : ¬ k = j := fun e => hjk e.symm
          cases hf : findV st.S j with
          | none => simp [this]
          | some u => rfl
      · have hj : upd p.sl k (⟨k, p.n, p.d, proVal p k own⟩, 0) j = some (v', X') := hj
        unfold upd at hj
        by_cases hjk : j = k
        · subst hjk
          rw [if_pos rfl] at hj
          injection hj with hj
          injection hj with h1 h2
          subst h1 h2
          rw [Nat.zero_testBit]
          symm
          show markBit st.M j i = false
          unfold markBit
          rw [List.any_eq_false]
          intro m hm
          have h3 := h.nm m hm
          intro h4
          have h5 : m.2 = j := by simp at h4; exact h4.1
          rw [h5, ← hs] at h3
          simp at h3
        · rw [if_neg hjk] at hj
          exact h.mks j v' X' hj i
      · show (findV (st.S ++ [_]) m.2).isSome = true
        rw [findV_app]
        have := h.nm m hm
        cases hf : findV st.S m.2 with
        | none => rw [hf] at this; simp at this
        | some u => rfl
  · rw [if_neg hc, if_neg hc]
    exact h
theorem Rel.chB (h : Rel p st) (k : Nat) : rchB st k = chB p k := by
  unfold rchB Go.Proofs.Ytliljjlegofmkaa.chB
  rw [← h.sl]
  cases hk : p.sl k with
  | none => rfl
  | some z =>
    obtain ⟨v, X⟩ := z
    show (if isQ st.q true (markBit st.M k) then some v.v else none) = if isQ p.q true X.testBit then some v.v else none
    rw [h.q, isQ_congr (p := markBit st.M k) (p' := X.testBit) fun i _ => (h.mks k v X hk i).symm]
theorem Rel.pre (h : Rel p st) {a b : Nat} (ha : PreAt p a) (hb : RPreAt st b) : a = b := by
  refine ha.inj ?_
  obtain ⟨h1, h2, h3⟩ := hb
  refine ⟨by rw [← h.f]; exact h1, fun j h4 h5 => ?_, ?_⟩
  · unfold isCh; rw [← h.chB]; exact h2 j (by rw [h.f]; exact h4) h5
  · unfold isCh; rw [← h.chB]; exact h3
theorem Rel.top (h : Rel p st) {a b : Nat} (ha : TopAt p a) (hb : RTop st.L b) : a = b := by
  refine ha.inj ⟨fun k hk => ?_, ?_⟩
  · rcases h.mu k with ⟨h1, _⟩ | ⟨v, t, _, ht, hv, hs, _⟩
    · rw [← Option.isSome_map (f := nat2), h1] at hk; simp at hk
    · rw [← hs]; exact hb.1 t ht v hv
  · rcases hb.2 with h0 | ⟨t, ht, v, hv, hs⟩
    · exact .inl h0
    · right
      rcases h.mu b with ⟨_, h2⟩ | ⟨v', t', h1, _⟩
      · exact absurd hs (h2 t ht v hv)
      · rw [← Option.isSome_map (f := nat2), h1]; rfl
end
end Go.Proofs.Ytliljjlegofmkaa
