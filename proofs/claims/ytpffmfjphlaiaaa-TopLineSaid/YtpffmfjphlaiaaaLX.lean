/- The plain law: a round of the end. -/
import Derived.Test.YtpffmfjphlaiaaaLV
namespace Go.Proofs.Ytpffmfjphlaiaaa

/-- Within a round of the end: behind the tick the sender's number was a0, its pieces S0. -/
structure Rnd (Len now a0 : Nat) (S0 : List Nat) (due : Prop) (N : Nat) (st : Ls) : Prop where
  good : Good Len st
  ap : st.apart = false
  now : st.now = now
  ge : a0 ≤ st.acked
  S : st.S = S0.drop (st.acked - a0)
  way : due → Way a0 st.acked st.L
  n : st.n + weight st.L ≤ N
theorem Rnd.ack {Len now a0 N q : Nat} {S0 : List Nat} {due : Prop} {st : Ls} {rest : List (Bool × Nat)} (h : Rnd Len now a0 S0 due N st) (hL : st.L = (true, q) :: rest) :
    Rnd Len now a0 S0 due N (ackSt { st with L := rest } q) := by
  have hg := h.good
  have hge := h.ge
  have hq : q ≤ st.got := hg.ack q (by rw [hL]; simp)
  have hroom := hg.room
  have hn := h.n
  rw [hL] at hroom hn
  rw [weight_cons] at hn
  simp only [List.length_cons] at hroom
  refine ⟨(hg.sub (ap := st.apart) (L' := rest) (fun p hp => by rw [hL]; exact List.mem_cons_of_mem _ hp) (by omega)).acked hq, h.ap, h.now, ?_, ?_, fun hd => (h.way hd).ack hL, ?_⟩
  · show a0 ≤ max st.acked q
    omega
  · show st.S.drop (q - st.acked) = S0.drop (max st.acked q - a0)
    rw [h.S, List.drop_drop]
    congr 1
    omega
  · show st.n + weight rest ≤ N
    omega
theorem Rnd.data {Len now a0 N q r : Nat} {S0 : List Nat} {due : Prop} {st : Ls} {rest : List (Bool × Nat)} (h : Rnd Len now a0 S0 due N st) (hL : st.L = (false, q) :: rest)
    (hall : ∀ i, i < r → addE st.E st.got q (st.got + i + 1) = true) (hfin : addE st.E st.got q (st.got + r + 1) = false) :
    Rnd Len now a0 S0 due N { keptSt { st with L := rest } q r with L := sentL { st with L := rest } (true, st.got + r) } := by
  have hg := h.good
  have hroom := hg.room
  have hn := h.n
  have hap := h.ap
  have hq := hg.dat q (by rw [hL]; simp)
  rw [hL] at hroom hn
  rw [weight_cons] at hn
  simp only [List.length_cons] at hroom
  have hw : weight (sentL { st with L := rest } (true, st.got + r)) ≤ weight rest + 1 := by
    unfold sentL
    split
    · rw [weight_append]; simp [weight]
    · exact Nat.le_succ _
  refine ⟨(hg.sub (ap := st.apart) (L' := rest) (fun p hp => by rw [hL]; exact List.mem_cons_of_mem _ hp) (by omega)).data hq.2 hall hfin, hap, h.now, h.ge, h.S, fun hd => Way.data hg hL h.ge hap (h.way hd) hfin, ?_⟩
  show st.n + 1 + weight (sentL { st with L := rest } (true, st.got + r)) ≤ N
  simp only [Bool.false_eq_true, if_false] at hn
  omega
theorem weight_data {st : Ls} {q x : Nat} {rest : List (Bool × Nat)} (hL : st.L = (false, q) :: rest) : weight (sentL { st with L := rest } (true, x)) < weight st.L := by
  rw [hL, weight_cons]
  unfold sentL
  split
  · rw [weight_append]; simp [weight]; omega
  · simp
theorem weight_ack {L : List (Bool × Nat)} {q : Nat} {rest : List (Bool × Nat)} (hL : L = (true, q) :: rest) : weight rest < weight L := by
  rw [hL, weight_cons]
  simp
/-- The first piece is due. -/
def Due (span : Nat) (st : Ls) : Prop := st.L = [] ∧ ∃ s ss, st.S = s :: ss ∧ dueB (st.now + 1) span s = true
theorem Rnd.start {Len win span : Nat} {st : Ls} (hg : Good Len st) (hap : st.apart = false) (hwin : 1 ≤ win) :
    Rnd Len (st.now + 1) st.acked (tkS (st.now + 1) span (min st.S.length win) st.S) (Due span st) (st.n + 512) (tickSt st win span) := by
  have hgt := hg.tick (win := win) (span := span)
  refine ⟨hgt, hap, rfl, Nat.le_refl _, ?_, fun hd => ?_, ?_⟩
  · show tkS (st.now + 1) span (min st.S.length win) st.S = (tkS (st.now + 1) span (min st.S.length win) st.S).drop (st.acked - st.acked)
    simp
  · obtain ⟨hL, s, ss, hs, hd⟩ := hd
    refine .inr (.inr ?_)
    show (false, st.acked + 1) ∈ sentAll st.apart st.L (tkN (st.now + 1) span st.acked (min st.S.length win) st.S)
    rw [hL, hap]
    have hm : 0 < min st.S.length win := by rw [hs]; simp only [List.length_cons]; omega
    refine sentAll_has _ (by
      have := first_due (now := st.now + 1) (span := span) (acked := st.acked) (m := min st.S.length win) (ss := ss) hm hd
      rw [← hs] at this
      exact this) ?_
    have h1 := tkN_len (st.now + 1) span st.acked (min st.S.length win) st.S
    have h2 := hg.sum
    have h3 := hg.len
    simp only [List.length_nil]
    omega
  · have h1 := weight_le (tickSt st win span).L
    have h2 := hgt.room
    show st.n + weight (tickSt st win span).L ≤ st.n + 512
    omega
/-- Between the rounds of the end. -/
structure Fin (Len span k : Nat) (st : Ls) : Prop where
  good : Good Len st
  ap : st.apart = false
  now : st.now ≤ 400 + k
  n : st.n ≤ 400 + 512 * k
  fin : 1 ≤ k → st.L = [] ∧ (st.S = [] ∨ Phi span st + (k - 1) ≤ 4 * Len)
theorem Fin.next {Len win span k N : Nat} {st st' : Ls} (h : Fin Len span k st) (hspan : 1 ≤ span ∧ span ≤ 4) (hwin : 1 ≤ win) (hle : ∀ s ∈ st.S, s ≤ st.now) (hN : N = st.n + 512)
    (hr : Rnd Len (st.now + 1) st.acked (tkS (st.now + 1) span (min st.S.length win) st.S) (Due span st) N st') (hL : st'.L = []) : Fin Len span (k + 1) st' := by
  have hg' := hr.good
  have hnow := hr.now
  have hn := hr.n
  have h1 := h.now
  have h2 := h.n
  refine ⟨hg', hr.ap, by omega, by omega, fun _ => ⟨hL, ?_⟩⟩
  have hsum := hg'.sum
  by_cases hk : 1 ≤ k
  · obtain ⟨h3, h4⟩ := h.fin hk
    by_cases hS : st.S = []
    · left
      have h5 := hr.S
      rw [hS] at h5
      simpa [tkS] using h5
    · right
      have h6 : Phi span st + (k - 1) ≤ 4 * Len := h4.resolve_left hS
      have h7 := Phi_round (acked' := st'.acked) hspan hwin hle hr.ge hS (fun s ss hs hd => by
        have h8 := hr.way ⟨h3, s, ss, hs, hd⟩
        rw [hL] at h8
        exact h8.done) st' hnow hr.S
      omega
  · right
    have := Phi_le (span := span) (st := st') hspan.2
    omega
theorem Fin.done {Len span : Nat} {st : Ls} (h : Fin Len span (4 * (Len + 1)) st) : st.S = [] ∧ st.got = Len := by
  have h1 := (h.fin (by omega)).2
  have hS : st.S = [] := by
    rcases h1 with h1 | h1
    · exact h1
    · omega
  have h2 := h.good.sum
  have h3 := h.good.ag
  have h4 := h.good.gl
  rw [hS] at h2
  simp only [List.length_nil] at h2
  exact ⟨hS, by omega⟩
end Go.Proofs.Ytpffmfjphlaiaaa
