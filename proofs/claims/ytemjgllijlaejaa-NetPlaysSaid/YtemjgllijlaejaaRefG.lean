/- The net and the document's one, side by side: what both hold, and how it goes on. -/
import Derived.Test.YtemjgllijlaejaaRefF
import Derived.Test.YtemjgllijlaejaaNetM
import Derived.Test.YtemjgllijlaejaaLend
namespace Go.Proofs.Ytemjgllijlaejaa
open Go.RowKit

theorem RefR.cap {w : World} {mb : Nat} {N : Int} {L : List Pk} {P : List (Int × Int)} {F : Nat → Prop} (h : RefR w mb N L P F) : RefR w mb N L P (fun k => F k ∧ k < w.heap.size) := by
  obtain ⟨⟨lv, av, vs, h1, h6, h7, h8⟩, ho⟩ := h
  exact ⟨⟨lv, av, vs, h1, ⟨h6.len, h6.row, fun k hk => ⟨h6.rin k hk, own_lt h6.row hk⟩, fun i p v hp hv => ⟨(h6.body i p v hp hv).1, fun k hk => ⟨(h6.body i p v hp hv).2 k hk, own_lt (h6.body i p v hp hv).1 hk⟩⟩⟩, h7, fun k hk => ⟨h8 k hk, own_lt h7 hk⟩⟩, ho, h1.lt⟩

/-- Both nets, each in blocks of its own, made behind W. -/
structure Two (W w : World) (nb mb : Nat) (N : Int) (L : List Pk) (A : Nat → Nat → Bool) (F : Nat → Prop) (M : List Pk) (P : List (Int × Int)) (G : Nat → Prop) : Prop where
  st : St W.heap.size w nb N L A F
  rf : RefR w mb N M P G
  lo : ∀ k, G k → W.heap.size ≤ k
  hi : ∀ k, G k → k < w.heap.size
  dis : ∀ k, F k → ¬ G k
  fr : Fr (fun k => W.heap.size ≤ k) W w

section
variable {W w w' : World} {nb mb : Nat} {N : Int} {L L' M M' : List Pk} {A A' : Nat → Nat → Bool} {F F' G X : Nat → Prop} {P P' : List (Int × Int)}
theorem Two.net (h : Two W w nb mb N L A F M P G) (hS : St W.heap.size w' nb N L' A' F') (m : Mv F w F' w') : Two W w' nb mb N L' A' F' M P G :=
  ⟨hS, h.rf.fr m.fr (fun k hk hx => h.dis k hx hk), h.lo, fun k hk => Nat.lt_of_lt_of_le (h.hi k hk) m.fr.size, fun k hk hg => by
    rcases m.new k hk with h1 | h1
    · exact h.dis k h1 hg
    · have := h.hi k hg; omega, h.fr.tr (m.fr.mono fun k _ hk => h.st.lo k hk)⟩
theorem Two.ref (h : Two W w nb mb N L A F M P G) (hr : RefR w' mb N M' P' (fun k => G k ∨ w.heap.size ≤ k)) (hf : Fr G w w') : ∃ G', Two W w' nb mb N L A F M' P' G' ∧ ∀ k, G' k → G k ∨ w.heap.size ≤ k :=
  ⟨_, ⟨h.st.fr hf (fun k hk hx => h.dis k hk hx), hr.cap, fun k hk => by
    rcases hk.1 with h1 | h1
    · exact h.lo k h1
    · have := h.fr.size; omega, fun k hk => hk.2, fun k hk hg => by
    rcases hg.1 with h1 | h1
    · exact h.dis k hk h1
    · have := h.st.hi k hk; omega, h.fr.tr (hf.mono fun k _ hk => h.lo k hk)⟩, fun k hk => hk.1⟩
theorem Two.far (h : Two W w nb mb N L A F M P G) (hf : Fr X w w') (hx : ∀ k, X k → W.heap.size ≤ k ∧ ¬ F k ∧ ¬ G k) : Two W w' nb mb N L A F M P G :=
  ⟨h.st.fr hf (fun k hk hX => (hx k hX).2.1 hk), h.rf.fr hf (fun k hk hX => (hx k hX).2.2 hk), h.lo, fun k hk => Nat.lt_of_lt_of_le (h.hi k hk) hf.size, h.dis, h.fr.tr (hf.mono fun k _ hk => (hx k hk).1)⟩
theorem Two.up (h : Two W w nb mb N L A F M P G) (hf : Fr (fun _ => False) w w') : Two W w' nb mb N L A F M P G := h.far hf fun _ h => h.elim
end

/-- The packets are no longer than they may be; both say the same of who is parted. -/
structure Fit (N : Int) (L : List Pk) (A : Nat → Nat → Bool) (P : List (Int × Int)) (m : Nat) : Prop where
  sm : ∀ p ∈ L, p.b.length ≤ 1200
  apart : ∀ a b, P.any (mt a b) = pB N A a b
  len : P.length ≤ m
theorem Fit.mono {N : Int} {L L' : List Pk} {A : Nat → Nat → Bool} {P : List (Int × Int)} {m m' : Nat} (h : Fit N L A P m) (hL : ∀ p ∈ L', p.b.length ≤ 1200) (hm : m ≤ m') : Fit N L' A P m' := ⟨hL, h.apart, Nat.le_trans h.len hm⟩

theorem mt_swap (a b x y : Int) : mt x y (a, b) = mt a b (x, y) := by
  unfold mt
  rw [Bool.eq_iff_iff]
  simp only [Bool.or_eq_true, Bool.and_eq_true, beq_iff_eq]
  omega
/-- Two pairs that match a third one match alike. -/
theorem mt_same {a b x y : Int} (h : mt x y (a, b) = true) (z : Int × Int) : mt x y z = mt a b z := by
  unfold mt at *
  rw [Bool.eq_iff_iff]
  simp only [Bool.or_eq_true, Bool.and_eq_true, beq_iff_eq] at *
  omega
theorem mt_other {a b x y : Int} (h : mt x y (a, b) = false) {z : Int × Int} (hz : mt x y z = true) : mt a b z = false := by
  cases h1 : mt a b z with
  | false => rfl
  | true =>
    have : mt x y (a, b) = true := by
      unfold mt at *
      simp only [Bool.or_eq_true, Bool.and_eq_true, beq_iff_eq] at *
      omega
    rw [h] at this
    cases this
theorem rset_any (P : List (Int × Int)) (a b : Int) (on : Bool) (x y : Int) : (rset P a b on).any (mt x y) = if mt x y (a, b) then on else P.any (mt x y) := by
  have hk : (keepP P a b).any (mt x y) = if mt x y (a, b) then false else P.any (mt x y) := by
    unfold keepP
    rw [List.any_filter]
    cases h : mt x y (a, b) with
    | true =>
      simp only [if_true]
      rw [List.any_eq_false]
      intro z _
      rw [mt_same h z]
      cases mt a b z <;> simp
    | false =>
      simp only [Bool.false_eq_true, if_false]
      congr 1
      funext z
      cases hz : mt x y z with
      | false => simp
      | true => rw [mt_other h hz]; rfl
  unfold rset
  rw [List.any_append, hk]
  cases on <;> cases h : mt x y (a, b) <;> simp [h]
theorem setP_any (N a b : Int) (hp : pairOk N a b = true) (A : Nat → Nat → Bool) (on : Bool) (x y : Int) : pB N (setP N a b A on) x y = if mt x y (a, b) then on else pB N A x y := by
  have hp' := hp
  simp only [pairOk, inN, Bool.and_eq_true, decide_eq_true_eq] at hp'
  obtain ⟨⟨⟨ha0, ha1⟩, ⟨hb0, hb1⟩⟩, hne⟩ := hp'
  unfold setP
  rw [if_pos hp]
  unfold pB
  cases h1 : inN N x with
  | false =>
    have : mt x y (a, b) = false := by
      simp [inN] at h1
      unfold mt
      rw [Bool.eq_false_iff]
      simp only [ne_eq, Bool.or_eq_true, Bool.and_eq_true, beq_iff_eq]
      omega
    simp [this]
  | true =>
    cases h2 : inN N y with
    | false =>
      have : mt x y (a, b) = false := by
        simp [inN] at h2
        unfold mt
        rw [Bool.eq_false_iff]
        simp only [ne_eq, Bool.or_eq_true, Bool.and_eq_true, beq_iff_eq]
        omega
      simp [this]
    | true =>
      simp only [Bool.true_and, inN, decide_eq_true_eq] at h1 h2 ⊢
      unfold setA
      by_cases hm : mt x y (a, b) = true
      · rw [if_pos hm, if_pos]
        unfold mt at hm
        simp only [Bool.or_eq_true, Bool.and_eq_true, beq_iff_eq] at hm
        omega
      · rw [if_neg hm, if_neg]
        intro hx
        apply hm
        unfold mt
        simp only [Bool.or_eq_true, Bool.and_eq_true, beq_iff_eq]
        omega
theorem rset_len (P : List (Int × Int)) (a b : Int) (on : Bool) : (rset P a b on).length ≤ P.length + 1 := by
  unfold rset keepP
  rw [List.length_append]
  have := List.length_filter_le (fun z => !mt a b z) P
  cases on
  · simp; omega
  · simp; omega
theorem Fit.part {N : Int} {L : List Pk} {A : Nat → Nat → Bool} {P : List (Int × Int)} {m : Nat} (h : Fit N L A P m) (a b : Int) (on : Bool) : Fit N L (setP N a b A on) (rsetP N a b P on) (m + 1) := by
  cases hp : pairOk N a b with
  | true =>
    refine ⟨h.sm, fun x y => ?_, ?_⟩
    · rw [setP_any N a b hp]
      unfold rsetP
      rw [if_pos hp, rset_any, h.apart]
    · unfold rsetP
      rw [if_pos hp]
      have := rset_len P a b on
      have := h.len
      omega
  | false =>
    have e1 : setP N a b A on = A := by unfold setP; rw [hp]; rfl
    have e2 : rsetP N a b P on = P := by unfold rsetP; rw [hp]; rfl
    rw [e1, e2]
    exact h.mono h.sm (by omega)

/-- What is put behind all. -/
theorem Fit.send {N : Int} {L : List Pk} {A : Nat → Nat → Bool} {P : List (Int × Int)} {m : Nat} (h : Fit N L A P m) (p : Pk) (e : sendE N L p = 0) : (if P.any (mt p.f p.t) = true then L else L ++ [p]) = sendL N L A p := by
  obtain ⟨h1, h2⟩ : inN N p.f = true ∧ inN N p.t = true := by
    unfold sendE at e
    split at e
    · rename_i hx; simpa using hx
    · omega
  unfold sendL
  rw [h.apart]
  unfold pB
  rw [h1, h2]
  cases A p.f.toNat p.t.toNat <;> simp [e]
theorem sendL_sm {N : Int} {L : List Pk} {A : Nat → Nat → Bool} {p : Pk} (h : ∀ p ∈ L, p.b.length ≤ 1200) : ∀ q ∈ sendL N L A p, q.b.length ≤ 1200 := by
  unfold sendL
  split
  · rename_i hx
    refine sm_more h ?_
    have := hx.1
    unfold sendE at this
    split at this
    · split at this
      · omega
      · omega
    · omega
  · exact h

theorem rpart_any (mb : Nat) (N : Int) (L : List Pk) (P : List (Int × Int)) (F : Nat → Prop) (a b : Int) (on : Bool) (w : World) (h : RefR w mb N L P F) (hP : P.length ≤ 1000) :
    Calls Try.prog 39 #[.pointer (some ⟨mb, 0, none⟩), .int .i64 a, .int .i64 b, .bool on] w fun e w' => e = .returned (.int .i64 (setE N a b)) ∧ RefR w' mb N L (rsetP N a b P on) (fun k => F k ∨ w.heap.size ≤ k) ∧ Fr F w w' := by
  unfold setE rsetP
  cases hp : pairOk N a b with
  | true =>
    refine (rpart_yes mb N L P F a b on w h hp hP).mono ?_
    rintro e w' ⟨he, hr, hf⟩
    exact ⟨he, hr, hf⟩
  | false =>
    refine (rpart_no mb N L P F a b on w h hp).mono ?_
    rintro e w' ⟨he, rfl⟩
    exact ⟨he, h.up (fun _ h => .inl h), Fr.refl _ _⟩
theorem rsend_any (mb : Nat) (N : Int) (L : List Pk) (A : Nat → Nat → Bool) (P : List (Int × Int)) (F : Nat → Prop) (p : Pk) (s : Value) (w : World) (h : RefR w mb N L P F) (hs : Byt w s p.b) {m : Nat} (fit : Fit N L A P m) (hm : m ≤ 1000) :
    Calls Try.prog 32 #[.pointer (some ⟨mb, 0, none⟩), .agg #[.int .i64 p.f, .int .i64 p.t, s]] w fun e w' => e = .returned (.int .i64 (sendE N L p)) ∧
      RefR w' mb N (sendL N L A p) P (fun k => F k ∨ w.heap.size ≤ k) ∧ Fr F w w' := by
  by_cases hn : sendE N L p = 0
  · refine (rsend_ok mb N L P F p s w h hs hn (Nat.le_trans fit.len hm)).mono ?_
    rintro e w' ⟨he, hr, hf⟩
    rw [fit.send p hn] at hr
    exact ⟨by rw [hn]; exact he, hr, hf⟩
  · refine (rsend_not mb N L P F p s w h hs hn).mono ?_
    rintro e w' ⟨he, hf⟩
    have hl : sendL N L A p = L := sendL_not hn
    rw [hl]
    exact ⟨he, (h.fr hf (fun _ _ h => h)).up (fun _ h => .inl h), hf.none_up⟩
end Go.Proofs.Ytemjgllijlaejaa
