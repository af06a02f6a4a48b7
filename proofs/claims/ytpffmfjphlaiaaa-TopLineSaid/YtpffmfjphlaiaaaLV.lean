/- The plain law: what comes in the end. -/
import Derived.Test.YtpffmfjphlaiaaaLS
namespace Go.Proofs.Ytpffmfjphlaiaaa

theorem sentAll_keep {ap : Bool} {x : Bool × Nat} : ∀ {L : List (Bool × Nat)} (Ns : List Nat), x ∈ L → x ∈ sentAll ap L Ns
  | _, [], h => h
  | L, n :: ns, h => by
    refine sentAll_keep ns ?_
    split
    · exact List.mem_append_left _ h
    · exact h
theorem sentAll_has {n : Nat} : ∀ {L : List (Bool × Nat)} (Ns : List Nat), n ∈ Ns → L.length + Ns.length ≤ 256 → (false, n) ∈ sentAll false L Ns
  | L, m :: ns, h, hl => by
    simp only [List.length_cons] at hl
    have hr : (if L.length < 256 ∧ false = false then L ++ [(false, m)] else L) = L ++ [(false, m)] := by
      rw [if_pos ⟨by omega, rfl⟩]
    unfold sentAll
    rw [hr]
    rcases List.mem_cons.1 h with rfl | h
    · exact sentAll_keep ns (by simp)
    · exact sentAll_has ns h (by simp; omega)
/-- How many ticks may go by, from an empty net, till all came. -/
def Phi (span : Nat) (st : Ls) : Nat :=
  match st.S with
  | [] => 0
  | s :: ss => 4 * ss.length + (if s = 0 then 1 else max 1 (span - (st.now - s)))
theorem Phi_le {span : Nat} {st : Ls} (h : span ≤ 4) : Phi span st ≤ 4 * st.S.length := by
  unfold Phi
  split
  · simp
  · rename_i s ss hs
    rw [hs]
    simp only [List.length_cons]
    split <;> omega
/-- The piece behind a0 has come, or is on its way, or its ack is. -/
def Way (a0 : Nat) (acked : Nat) (L : List (Bool × Nat)) : Prop := a0 < acked ∨ (∃ q, a0 < q ∧ (true, q) ∈ L) ∨ (false, a0 + 1) ∈ L
theorem Way.data {Len a0 q r : Nat} {st : Ls} {rest : List (Bool × Nat)} (hg : Good Len st) (hL : st.L = (false, q) :: rest) (ha : a0 ≤ st.acked) (hap : st.apart = false) (hP : Way a0 st.acked st.L) (hfin : addE st.E st.got q (st.got + r + 1) = false) :
    Way a0 st.acked (sentL { st with L := rest } (true, st.got + r)) := by
  have hroom := hg.room
  have hag := hg.ag
  have hs : sentL { st with L := rest } (true, st.got + r) = rest ++ [(true, st.got + r)] := by
    unfold sentL
    rw [if_pos]
    rw [hL] at hroom
    simp only [List.length_cons] at hroom
    exact ⟨by show rest.length < 256; omega, hap⟩
  rw [hs]
  rcases hP with h | ⟨x, hx, hm⟩ | h
  · exact .inl h
  · rw [hL] at hm
    rcases List.mem_cons.1 hm with h | h
    · cases h
    · exact .inr (.inl ⟨x, hx, List.mem_append_left _ h⟩)
  · rw [hL] at h
    rcases List.mem_cons.1 h with h | h
    · injection h with _ h
      refine .inr (.inl ⟨st.got + r, ?_, by simp⟩)
      by_cases hr : r = 0
      · subst hr
        by_cases hgt : a0 < st.got
        · omega
        · exfalso
          have hq : q = st.got + 1 := by omega
          have hE : st.E q = false := by
            cases hE : st.E q with
            | false => rfl
            | true => have := (hg.ear q hE).1; omega
          have hfr : fresh st.E st.got q = true := by
            have h1 : st.got < q := by omega
            have h2 : q ≤ st.got + 8 := by omega
            simp [fresh, hE, h1, h2]
          unfold addE at hfin
          rw [if_pos ⟨by omega, hfr⟩] at hfin
          cases hfin
      · omega
    · exact .inr (.inr (List.mem_append_left _ h))
theorem Way.ack {a0 q acked : Nat} {L rest : List (Bool × Nat)} (hL : L = (true, q) :: rest) (hP : Way a0 acked L) : Way a0 (max acked q) rest := by
  rcases hP with h | ⟨x, hx, hm⟩ | h
  · exact .inl (by omega)
  · rw [hL] at hm
    rcases List.mem_cons.1 hm with h | h
    · injection h with _ h
      exact .inl (by omega)
    · exact .inr (.inl ⟨x, hx, h⟩)
  · rw [hL] at h
    rcases List.mem_cons.1 h with h | h
    · cases h
    · exact .inr (.inr h)
theorem Way.done {a0 acked : Nat} (h : Way a0 acked []) : a0 < acked := by
  rcases h with h | ⟨x, -, h⟩ | h
  · exact h
  · simp at h
  · simp at h
/-- How much is still to be taken. -/
def weight (L : List (Bool × Nat)) : Nat := (L.map fun p => if p.1 then 1 else 2).sum
theorem weight_cons (p : Bool × Nat) (L : List (Bool × Nat)) : weight (p :: L) = (if p.1 then 1 else 2) + weight L := by simp [weight]
theorem weight_append (a b : List (Bool × Nat)) : weight (a ++ b) = weight a + weight b := by simp [weight]
theorem weight_le (L : List (Bool × Nat)) : weight L ≤ 2 * L.length := by
  induction L with
  | nil => simp [weight]
  | cons p L ih => rw [weight_cons]; simp only [List.length_cons]; split <;> omega
theorem first_due {now span acked m s : Nat} {ss : List Nat} (hm : 0 < m) (hd : dueB now span s = true) : acked + 1 ∈ tkN now span acked m (s :: ss) := by
  unfold tkN
  simp only [List.mem_map, List.mem_filter, List.mem_range]
  exact ⟨0, ⟨hm, by simpa using hd⟩, rfl⟩
theorem first_tkS {now span m s : Nat} {ss : List Nat} (hm : 0 < m) : ∃ ts, tkS now span m (s :: ss) = (if dueB now span s then now else s) :: ts ∧ ts.length = ss.length := by
  obtain ⟨m, rfl⟩ : ∃ k, m = k + 1 := ⟨m - 1, by omega⟩
  refine ⟨tkS now span m ss, by simp [tkS], tkS_len _ _ _ _⟩
/-- One round from an empty net: what it leaves of the sender lowers Phi. -/
theorem Phi_round {span win acked' : Nat} {st : Ls} (hspan : 1 ≤ span ∧ span ≤ 4) (hwin : 1 ≤ win) (hle : ∀ s ∈ st.S, s ≤ st.now) (ha : st.acked ≤ acked') (hS : st.S ≠ [])
    (hdue : ∀ s ss, st.S = s :: ss → dueB (st.now + 1) span s = true → st.acked < acked') (st' : Ls) (hnow : st'.now = st.now + 1) (hS' : st'.S = (tkS (st.now + 1) span (min st.S.length win) st.S).drop (acked' - st.acked)) : Phi span st' + 1 ≤ Phi span st := by
  obtain ⟨s, ss, hs⟩ : ∃ s ss, st.S = s :: ss := by
    cases h : st.S with
    | nil => exact absurd h hS
    | cons s ss => exact ⟨s, ss, rfl⟩
  have hP : Phi span st = 4 * ss.length + (if s = 0 then 1 else max 1 (span - (st.now - s))) := by unfold Phi; rw [hs]
  have hlen : st'.S.length = ss.length + 1 - (acked' - st.acked) := by rw [hS', List.length_drop, tkS_len, hs]; simp
  by_cases hlt : st.acked < acked'
  · have h1 := Phi_le (span := span) (st := st') hspan.2
    rw [hP]
    split <;> omega
  · have hea : acked' - st.acked = 0 := by omega
    have hnd : dueB (st.now + 1) span s = false := by
      cases h : dueB (st.now + 1) span s with
      | false => rfl
      | true => exact absurd (hdue s ss hs h) hlt
    have hm : 0 < min st.S.length win := by rw [hs]; simp only [List.length_cons]; omega
    obtain ⟨ts, hts, htl⟩ := first_tkS (now := st.now + 1) (span := span) (s := s) (ss := ss) hm
    rw [hea, List.drop_zero, hs] at hS'
    rw [hs] at hts
    rw [hts, hnd] at hS'
    have hsn := hle s (by rw [hs]; simp)
    unfold dueB at hnd
    simp only [Bool.not_eq_false', Bool.and_eq_true, decide_eq_true_eq] at hnd
    have hP' : Phi span st' = 4 * ts.length + (if s = 0 then 1 else max 1 (span - (st'.now - s))) := by unfold Phi; rw [hS']; rfl
    rw [hP, hP', hnow, htl, if_neg (by omega), if_neg (by omega)]
    omega
end Go.Proofs.Ytpffmfjphlaiaaa
