/- Quorums, plainly: they meet, they grow. -/
import Derived.Test.YtliljjlegofmkaaQC
import Derived.Test.YtliljjlegofmkaaPM
namespace Go.Proofs.Ytliljjlegofmkaa

theorem isQ_iff {q : Qu} {sec : Bool} {p : Nat → Bool} : isQ q sec p = true ↔ Ok q ∧ quo q sec p = true := by
  unfold isQ okQ
  rw [Bool.and_eq_true, beq_iff_eq]
  exact ⟨fun h => ⟨ok_of h.1, h.2⟩, fun h => ⟨h.1.right, h.2⟩⟩
theorem cnt_mono {n : Nat} {p p' : Nat → Bool} (h : ∀ i, i < n → p i = true → p' i = true) : cnt n p ≤ cnt n p' := by
  induction n with
  | zero => exact Nat.le_refl _
  | succ n ih =>
    simp only [cnt]
    have h1 := ih (fun i hi => h i (by omega))
    have h2 := h n (by omega)
    cases e1 : p n <;> cases e2 : p' n <;> simp_all <;> omega
theorem quo_mono {q : Qu} {sec : Bool} {p p' : Nat → Bool} (h : ∀ i, i < q.n.toNat → p i = true → p' i = true) (hp : quo q sec p = true) : quo q sec p' = true := by
  unfold quo at *
  split at hp
  · rename_i hk
    rw [if_pos hk]
    have := cnt_mono h
    simp only [decide_eq_true_eq] at hp ⊢
    omega
  · rename_i hk
    rw [if_neg hk]
    have hor : ∀ (i : Nat) (c : Bool), i < q.n.toNat → (!c || p i) = true → (!c || p' i) = true := fun i c hi hc => by
      cases c with
      | false => rfl
      | true => simp only [Bool.not_true, Bool.false_or] at hc ⊢; exact h i hi hc
    split at hp
    · rename_i hk2
      rw [if_pos hk2]
      split at hp
      · rename_i hs
        rw [if_pos hs]
        rw [anyN_iff] at hp ⊢
        obtain ⟨c, hc, h1⟩ := hp
        rw [allN_iff] at h1
        exact ⟨c, hc, allN_iff.2 fun i hi => hor i _ hi (h1 i hi)⟩
      · rename_i hs
        rw [if_neg hs]
        rw [anyN_iff] at hp ⊢
        obtain ⟨c, hc, h1⟩ := hp
        rw [allN_iff] at h1
        exact ⟨c, hc, allN_iff.2 fun i hi => hor i _ hi (h1 i hi)⟩
    · rename_i hk2
      rw [if_neg hk2]
      split at hp
      · rename_i hs
        rw [if_pos hs]
        rw [anyN_iff] at hp ⊢
        obtain ⟨c, hc, h1⟩ := hp
        rw [allN_iff] at h1
        exact ⟨c, hc, allN_iff.2 fun i hi => hor i _ hi (h1 i hi)⟩
      · rename_i hs
        rw [if_neg hs]
        rw [allN_iff] at hp ⊢
        intro j hj
        have h1 := hp j hj
        rw [anyN_iff] at h1 ⊢
        obtain ⟨i, hi, h2⟩ := h1
        simp only [Bool.and_eq_true] at h2 ⊢
        exact ⟨i, hi, h2.1, h i hi h2.2⟩
theorem isQ_mono {q : Qu} {sec : Bool} {p p' : Nat → Bool} (h : ∀ i, i < q.n.toNat → p i = true → p' i = true) (hp : isQ q sec p = true) : isQ q sec p' = true := by
  rw [isQ_iff] at *
  exact ⟨hp.1, quo_mono h hp.2⟩

/-! ### they meet -/
theorem cnt_two (n : Nat) (a b : Nat → Bool) : cnt n a + cnt n b ≤ n + cnt n (fun i => a i && b i) := by
  induction n with
  | zero => simp [cnt]
  | succ n ih =>
    simp only [cnt]
    rcases Bool.eq_false_or_eq_true (a n) with h1 | h1 <;> rcases Bool.eq_false_or_eq_true (b n) with h2 | h2 <;> simp only [h1, h2] <;> simp <;> omega
theorem cnt_pos {n : Nat} {p : Nat → Bool} (h : 0 < cnt n p) : ∃ i, i < n ∧ p i = true := by
  induction n with
  | zero => simp [cnt] at h
  | succ n ih =>
    cases e : p n with
    | true => exact ⟨n, by omega, e⟩
    | false =>
      simp only [cnt, e] at h
      obtain ⟨i, hi, h1⟩ := ih (by simpa using h)
      exact ⟨i, by omega, h1⟩
theorem meets {q : Qu} {a b : Nat → Bool} (ha : isQ q false a = true) (hb : isQ q true b = true) : ∃ i, i < q.n.toNat ∧ a i = true ∧ b i = true := by
  rw [isQ_iff] at ha hb
  obtain ⟨ho, ha⟩ := ha
  have hb := hb.2
  cases ho with
  | one N O T s n1 n12 o1 oN t1 tN m =>
    unfold quo at ha hb
    rw [if_pos rfl] at ha hb
    simp only [decide_eq_true_eq, Int.toNat_natCast, if_true, Bool.false_eq_true, if_false] at ha hb
    have h2 := cnt_two N a b
    obtain ⟨i, hi, h⟩ := cnt_pos (n := N) (p := fun i => a i && b i) (by omega)
    simp only [Bool.and_eq_true] at h
    exact ⟨i, by simpa using hi, h⟩
  | two N O T s n1 n12 o1 oN t1 tN m =>
    unfold quo at ha hb
    rw [if_neg (by simp), if_pos rfl] at ha hb
    simp only [Int.toNat_natCast, if_true, Bool.false_eq_true, if_false] at ha hb
    rw [anyN_iff] at ha hb
    obtain ⟨r, hr, ha⟩ := ha
    obtain ⟨c, hc, hb⟩ := hb
    rw [allN_iff] at ha hb
    have hlt : r * T + c < N := by
      rw [← m]
      have : (r + 1) * T ≤ O * T := Nat.mul_le_mul_right _ hr
      rw [Nat.add_mul] at this
      omega
    have e1 : (r * T + c) / T = r := by rw [Nat.mul_comm, Nat.mul_add_div (by omega), Nat.div_eq_of_lt hc]; omega
    have e2 : (r * T + c) % T = c := by rw [Nat.mul_comm, Nat.mul_add_mod, Nat.mod_eq_of_lt hc]
    have h1 := ha _ hlt
    have h2 := hb _ hlt
    simp [e1] at h1
    simp [e2] at h2
    exact ⟨_, by simpa using hlt, h1, h2⟩
  | three o t s n1 n12 b' =>
    unfold quo at ha hb
    rw [if_neg (by simp), if_neg (by simp)] at ha hb
    simp only [Int.toNat_natCast, if_true, Bool.false_eq_true, if_false] at ha hb
    rw [anyN_iff] at hb
    obtain ⟨j, hj, hb⟩ := hb
    rw [allN_iff] at ha hb
    have h1 := ha j hj
    rw [anyN_iff] at h1
    obtain ⟨i, hi, h1⟩ := h1
    have h2 := hb i hi
    simp only [Bool.and_eq_true, decide_eq_true_eq] at h1
    rw [h1.1] at h2
    simp at h2
    exact ⟨i, by simpa using hi, h1.2, h2⟩

/-! ### all, none -/

/-! ### a proposer's slots only grow -/
theorem isCh_iff {p : Ps} {k : Nat} : isCh p k = true ↔ ∃ v X, p.sl k = some (v, X) ∧ isQ p.q true X.testBit = true := by
  unfold isCh chB
  cases h : p.sl k with
  | none => simp
  | some y =>
    obtain ⟨v, X⟩ := y
    cases hq : isQ p.q true X.testBit with
    | true => exact ⟨fun _ => ⟨v, X, rfl, hq⟩, fun _ => by simp [hq]⟩
    | false =>
      refine ⟨fun h => by simp [hq] at h, ?_⟩
      rintro ⟨v', X', e, h2⟩
      injection e with e
      injection e with e1 e2
      subst e1 e2
      rw [hq] at h2
      cases h2
theorem proP_f (p : Ps) (k : Nat) (own : List UInt8) : (proP p k own).f = p.f := by unfold proP; split <;> (try split) <;> rfl
theorem proP_q (p : Ps) (k : Nat) (own : List UInt8) : (proP p k own).q = p.q := by unfold proP; split <;> (try split) <;> rfl
theorem accP_f (p : Ps) (x : Int) (k : Nat) : (accP p x k).f = p.f := by unfold accP; split <;> (try split) <;> rfl
theorem accP_q (p : Ps) (x : Int) (k : Nat) : (accP p x k).q = p.q := by unfold accP; split <;> (try split) <;> rfl
theorem prmP_f (p : Ps) (x : Int) (l : List Vt) : (prmP p x l).f = p.f := by unfold prmP; split <;> rfl
theorem prmP_q (p : Ps) (x : Int) (l : List Vt) : (prmP p x l).q = p.q := by unfold prmP; split <;> rfl
theorem prmP_sl (p : Ps) (x : Int) (l : List Vt) : (prmP p x l).sl = p.sl := by unfold prmP; split <;> rfl
theorem proP_sl {p : Ps} {k : Nat} {own : List UInt8} {j : Nat} {y : Vt × Nat} (h : p.sl j = some y) : (proP p k own).sl j = some y := by
  unfold proP
  split
  · split
    · exact h
    · rename_i hs
      have : j ≠ k := by rintro rfl; rw [hs] at h; cases h
      simp [upd, this, h]
  · exact h
theorem accP_sl {p : Ps} {x : Int} {k : Nat} {j : Nat} {v : Vt} {X : Nat} (h : p.sl j = some (v, X)) : ∃ Y, (accP p x k).sl j = some (v, Y) ∧ ∀ i, X.testBit i = true → Y.testBit i = true := by
  unfold accP
  split
  · split
    · rename_i hs
      by_cases hj : j = k
      · subst hj
        rw [hs] at h
        injection h with h
        injection h with h1 h2
        subst h1 h2
        exact ⟨_, by simp [upd]; rfl, fun i hi => by rw [Nat.testBit_or, hi]; rfl⟩
      · exact ⟨X, by simp [upd, hj, h], fun i hi => hi⟩
    · exact ⟨X, h, fun i hi => hi⟩
  · exact ⟨X, h, fun i hi => hi⟩
theorem isCh_pro {p : Ps} {k : Nat} {own : List UInt8} {j : Nat} (h : isCh p j = true) : isCh (proP p k own) j = true := by
  obtain ⟨v, X, h1, h2⟩ := isCh_iff.1 h
  exact isCh_iff.2 ⟨v, X, proP_sl h1, by rw [proP_q]; exact h2⟩
theorem isCh_acc {p : Ps} {x : Int} {k : Nat} {j : Nat} (h : isCh p j = true) : isCh (accP p x k) j = true := by
  obtain ⟨v, X, h1, h2⟩ := isCh_iff.1 h
  obtain ⟨Y, h3, h4⟩ := accP_sl (x := x) (k := k) h1
  exact isCh_iff.2 ⟨v, Y, h3, by rw [accP_q]; exact isQ_mono (fun i _ hi => h4 i hi) h2⟩
theorem isCh_prm {p : Ps} {x : Int} {l : List Vt} {j : Nat} (h : isCh p j = true) : isCh (prmP p x l) j = true := by
  obtain ⟨v, X, h1, h2⟩ := isCh_iff.1 h
  exact isCh_iff.2 ⟨v, X, by rw [prmP_sl]; exact h1, by rw [prmP_q]; exact h2⟩
theorem PreAt.le {p p' : Ps} {a b : Nat} (h : PreAt p a) (h' : PreAt p' b) (hf : p'.f = p.f) (hm : ∀ j, isCh p j = true → isCh p' j = true) : a ≤ b := by
  rcases Nat.lt_or_ge b a with hl | hl
  · have := hm b (h.2.1 b (by rw [← hf]; exact h'.1) hl)
    rw [h'.2.2] at this
    cases this
  · exact hl
end Go.Proofs.Ytliljjlegofmkaa
