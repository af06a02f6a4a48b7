/- The plain law: what stays true of a line. -/
import Derived.Test.YtpffmfjphlaiaaaLQ
namespace Go.Proofs.Ytpffmfjphlaiaaa

/-- What is true of a line of Len pieces at any time. -/
structure Good (Len : Nat) (st : Ls) : Prop where
  len : Len ≤ 40
  ag : st.acked ≤ st.got
  gl : st.got ≤ Len
  sum : st.acked + st.S.length = Len
  dat : ∀ q, (false, q) ∈ st.L → 1 ≤ q ∧ q ≤ Len
  ack : ∀ q, (true, q) ∈ st.L → q ≤ st.got
  ear : ∀ k, st.E k = true → st.got + 1 < k ∧ k ≤ st.got + 8 ∧ k ≤ Len
  life : st.life = 0 ∨ st.life = 3
  room : st.L.length ≤ 256

theorem Good.sub {Len : Nat} {st : Ls} {L' : List (Bool × Nat)} {ap : Bool} (h : Good Len st) (hs : ∀ p, p ∈ L' → p ∈ st.L) (hl : L'.length ≤ 256) : Good Len { st with L := L', apart := ap } :=
  ⟨h.len, h.ag, h.gl, h.sum, fun q hq => h.dat q (hs _ hq), fun q hq => h.ack q (hs _ hq), h.ear, h.life, hl⟩
theorem Good.acked {Len : Nat} {st : Ls} {q : Nat} (h : Good Len st) (hq : q ≤ st.got) : Good Len (ackSt st q) := by
  have := h.sum; have := h.ag; have := h.gl
  refine ⟨h.len, ?_, h.gl, ?_, h.dat, h.ack, h.ear, h.life, h.room⟩
  · show max st.acked q ≤ st.got; omega
  · show max st.acked q + (st.S.drop (q - st.acked)).length = Len
    rw [List.length_drop]; omega
theorem addE_true {E : Nat → Bool} {got q k : Nat} (h : addE E got q k = true) : E k = true ∨ (k = q ∧ got < q ∧ q ≤ got + 8) := by
  unfold addE at h
  split at h
  · rename_i h1
    have h2 := h1.2
    simp only [fresh, Bool.and_eq_true, decide_eq_true_eq] at h2
    exact .inr ⟨h1.1, h2.1.2, h2.2⟩
  · exact .inl h
theorem sentL_mem {st : Ls} {p x : Bool × Nat} (h : x ∈ sentL st p) : x ∈ st.L ∨ x = p := by
  unfold sentL at h
  split at h
  · simpa using h
  · exact .inl h
theorem sentL_len {st : Ls} {p : Bool × Nat} (h : st.L.length ≤ 256) : (sentL st p).length ≤ 256 := by
  unfold sentL
  split
  · rename_i h1; simp; omega
  · exact h
theorem Good.data {Len : Nat} {st : Ls} {q r : Nat} (h : Good Len st) (hq2 : q ≤ Len) (hall : ∀ i, i < r → addE st.E st.got q (st.got + i + 1) = true) (hfin : addE st.E st.got q (st.got + r + 1) = false) :
    Good Len { keptSt st q r with L := sentL st (true, st.got + r) } := by
  have hg := h.gl; have ha := h.ag
  have hgr : st.got + r ≤ Len := by
    by_cases hr : r = 0
    · omega
    · have h1 := hall (r - 1) (by omega)
      rcases addE_true h1 with h2 | ⟨h2, _⟩
      · have := (h.ear _ h2).2.2; omega
      · omega
  refine ⟨h.len, ?_, hgr, h.sum, fun x hx => ?_, fun x hx => ?_, fun k hk => ?_, .inr rfl, sentL_len h.room⟩
  · show st.acked ≤ st.got + r; omega
  · rcases sentL_mem hx with h1 | h1
    · exact h.dat x h1
    · cases h1
  · show x ≤ st.got + r
    rcases sentL_mem hx with h1 | h1
    · have := h.ack x h1; omega
    · injection h1 with _ h1; omega
  · show st.got + r + 1 < k ∧ k ≤ st.got + r + 8 ∧ k ≤ Len
    have hk' : drp (addE st.E st.got q) st.got r k = true := hk
    unfold drp at hk'
    simp only [Bool.and_eq_true, Bool.not_eq_true', Bool.and_eq_false_iff, decide_eq_false_iff_not] at hk'
    obtain ⟨h1, h2⟩ := hk'
    have hne : k ≠ st.got + r + 1 := fun e => by rw [e, hfin] at h1; cases h1
    rcases addE_true h1 with h3 | ⟨h3, h4, h5⟩
    · have := h.ear k h3; omega
    · omega
theorem tkN_mem {now span acked j : Nat} {S : List Nat} {n : Nat} (h : n ∈ tkN now span acked j S) : ∃ i, i < j ∧ n = acked + i + 1 := by
  unfold tkN at h
  simp only [List.mem_map, List.mem_filter, List.mem_range] at h
  obtain ⟨i, ⟨hi, -⟩, rfl⟩ := h
  exact ⟨i, hi, rfl⟩
theorem sentAll_mem {ap : Bool} {x : Bool × Nat} : ∀ {L : List (Bool × Nat)} {Ns : List Nat}, x ∈ sentAll ap L Ns → x ∈ L ∨ ∃ n, n ∈ Ns ∧ x = (false, n)
  | _, [], h => .inl h
  | L, n :: ns, h => by
    rcases sentAll_mem (ap := ap) (Ns := ns) h with h1 | ⟨m, h1, h2⟩
    · split at h1
      · rcases List.mem_append.1 h1 with h2 | h2
        · exact .inl h2
        · exact .inr ⟨n, by simp, by simpa using h2⟩
      · exact .inl h1
    · exact .inr ⟨m, by simp [h1], h2⟩
theorem sentAll_len {ap : Bool} : ∀ {L : List (Bool × Nat)} {Ns : List Nat}, L.length ≤ 256 → (sentAll ap L Ns).length ≤ 256
  | _, [], h => h
  | L, n :: ns, h => by
    refine sentAll_len (Ns := ns) ?_
    split
    · rename_i h1; simp; omega
    · exact h
theorem Good.tick {Len : Nat} {st : Ls} {win span : Nat} (h : Good Len st) : Good Len (tickSt st win span) := by
  have hs := h.sum
  refine ⟨h.len, h.ag, h.gl, ?_, fun q hq => ?_, fun q hq => ?_, h.ear, h.life, sentAll_len h.room⟩
  · show st.acked + (tkS _ _ _ _).length = Len
    rw [tkS_len]; exact hs
  · rcases sentAll_mem hq with h1 | ⟨n, h1, h2⟩
    · exact h.dat q h1
    · obtain ⟨i, hi, rfl⟩ := tkN_mem h1
      injection h2 with _ h2
      omega
  · rcases sentAll_mem hq with h1 | ⟨n, h1, h2⟩
    · exact h.ack q h1
    · cases h2
end Go.Proofs.Ytpffmfjphlaiaaa
