/- Quorums, plainly: they meet, they grow, each has a least one, how many may be gone. -/
import Derived.Test.YtpcfeiejfomnoaaQF
namespace Go.Proofs.Ytpcfeiejfomnoaa

theorem isQ_iff {q : Qu} {sec : Bool} {p : Nat → Bool} : isQ q sec p = true ↔ Ok q ∧ quo q sec p = true := by
  unfold isQ okQ
  rw [Bool.and_eq_true, beq_iff_eq]
  exact ⟨fun h => ⟨ok_of h.1, h.2⟩, fun h => ⟨h.1.right, h.2⟩⟩
theorem cnt_mono {n : Nat} {p p' : Nat → Bool} (h : ∀ i, i < n → p i = true → p' i = true) : cnt n p ≤ cnt n p' := by
  induction n with
  | zero => exact Nat.le_refl _
  | succ n ih =>
    simp only [cnt]
    have h1 := ih (fun i hi => h i (by omega))
    have h2 := h n (by omega)
    cases e1 : p n <;> cases e2 : p' n <;> simp_all <;> omega
theorem quo_mono {q : Qu} {sec : Bool} {p p' : Nat → Bool} (h : ∀ i, i < q.n.toNat → p i = true → p' i = true) (hp : quo q sec p = true) : quo q sec p' = true := by
  unfold quo at *
  split at hp
  · rename_i hk
    rw [if_pos hk]
    have := cnt_mono h
    simp only [decide_eq_true_eq] at hp ⊢
    omega
  · rename_i hk
    rw [if_neg hk]
    have hor : ∀ (i : Nat) (c : Bool), i < q.n.toNat → (!c || p i) = true → (!c || p' i) = true := fun i c hi hc => by
      cases c with
      | false => rfl
      | true => simp only [Bool.not_true, Bool.false_or] at hc ⊢; exact h i hi hc
    split at hp
    · rename_i hk2
      rw [if_pos hk2]
      split at hp
      · rename_i hs
        rw [if_pos hs]
        rw [anyN_iff] at hp ⊢
        obtain ⟨c, hc, h1⟩ := hp
        rw [allN_iff] at h1
        exact ⟨c, hc, allN_iff.2 fun i hi => hor i _ hi (h1 i hi)⟩
      · rename_i hs
        rw [if_neg hs]
        rw [anyN_iff] at hp ⊢
        obtain ⟨c, hc, h1⟩ := hp
        rw [allN_iff] at h1
        exact ⟨c, hc, allN_iff.2 fun i hi => hor i _ hi (h1 i hi)⟩
    · rename_i hk2
      rw [if_neg hk2]
      split at hp
      · rename_i hs
        rw [if_pos hs]
        rw [anyN_iff] at hp ⊢
        obtain ⟨c, hc, h1⟩ := hp
        rw [allN_iff] at h1
        exact ⟨c, hc, allN_iff.2 fun i hi => hor i _ hi (h1 i hi)⟩
      · rename_i hs
        rw [if_neg hs]
        rw [allN_iff] at hp ⊢
        intro j hj
        have h1 := hp j hj
        rw [anyN_iff] at h1 ⊢
        obtain ⟨i, hi, h2⟩ := h1
        simp only [Bool.and_eq_true] at h2 ⊢
        exact ⟨i, hi, h2.1, h i hi h2.2⟩
theorem isQ_mono {q : Qu} {sec : Bool} {p p' : Nat → Bool} (h : ∀ i, i < q.n.toNat → p i = true → p' i = true) (hp : isQ q sec p = true) : isQ q sec p' = true := by
  rw [isQ_iff] at *
  exact ⟨hp.1, quo_mono h hp.2⟩

/-! ### they meet -/
theorem cnt_two (n : Nat) (a b : Nat → Bool) : cnt n a + cnt n b ≤ n + cnt n (fun i => a i && b i) := by
  induction n with
  | zero => simp [cnt]
  | succ n ih =>
    simp only [cnt]
    rcases Bool.eq_false_or_eq_true (a n) with h1 | h1 <;> rcases Bool.eq_false_or_eq_true (b n) with h2 | h2 <;> simp only [h1, h2] <;> simp <;> omega
theorem cnt_pos {n : Nat} {p : Nat → Bool} (h : 0 < cnt n p) : ∃ i, i < n ∧ p i = true := by
  induction n with
  | zero => simp [cnt] at h
  | succ n ih =>
    cases e : p n with
    | true => exact ⟨n, by omega, e⟩
    | false =>
      simp only [cnt, e] at h
      obtain ⟨i, hi, h1⟩ := ih (by simpa using h)
      exact ⟨i, by omega, h1⟩
theorem meets {q : Qu} {a b : Nat → Bool} (ha : isQ q false a = true) (hb : isQ q true b = true) : ∃ i, i < q.n.toNat ∧ a i = true ∧ b i = true := by
  rw [isQ_iff] at ha hb
  obtain ⟨ho, ha⟩ := ha
  have hb := hb.2
  cases ho with
  | one N O T s n1 n12 o1 oN t1 tN m =>
    unfold quo at ha hb
    rw [if_pos rfl] at ha hb
    simp only [decide_eq_true_eq, Int.toNat_natCast, if_true, Bool.false_eq_true, if_false] at ha hb
    have h2 := cnt_two N a b
    obtain ⟨i, hi, h⟩ := cnt_pos (n := N) (p := fun i => a i && b i) (by omega)
    simp only [Bool.and_eq_true] at h
    exact ⟨i, by simpa using hi, h⟩
  | two N O T s n1 n12 o1 oN t1 tN m =>
    unfold quo at ha hb
    rw [if_neg (by simp), if_pos rfl] at ha hb
    simp only [Int.toNat_natCast, if_true, Bool.false_eq_true, if_false] at ha hb
    rw [anyN_iff] at ha hb
    obtain ⟨r, hr, ha⟩ := ha
    obtain ⟨c, hc, hb⟩ := hb
    rw [allN_iff] at ha hb
    have hlt : r * T + c < N := by
      rw [← m]
      have : (r + 1) * T ≤ O * T := Nat.mul_le_mul_right _ hr
      rw [Nat.add_mul] at this
      omega
    have e1 : (r * T + c) / T = r := by rw [Nat.mul_comm, Nat.mul_add_div (by omega), Nat.div_eq_of_lt hc]; omega
    have e2 : (r * T + c) % T = c := by rw [Nat.mul_comm, Nat.mul_add_mod, Nat.mod_eq_of_lt hc]
    have h1 := ha _ hlt
    have h2 := hb _ hlt
    simp [e1] at h1
    simp [e2] at h2
    exact ⟨_, by simpa using hlt, h1, h2⟩
  | three o t s n1 n12 b' =>
    unfold quo at ha hb
    rw [if_neg (by simp), if_neg (by simp)] at ha hb
    simp only [Int.toNat_natCast, if_true, Bool.false_eq_true, if_false] at ha hb
    rw [anyN_iff] at hb
    obtain ⟨j, hj, hb⟩ := hb
    rw [allN_iff] at ha hb
    have h1 := ha j hj
    rw [anyN_iff] at h1
    obtain ⟨i, hi, h1⟩ := h1
    have h2 := hb i hi
    simp only [Bool.and_eq_true, decide_eq_true_eq] at h1
    rw [h1.1] at h2
    simp at h2
    exact ⟨i, by simpa using hi, h1.2, h2⟩

/-! ### all, none -/
theorem cnt_true (n : Nat) : cnt n (fun _ => true) = n := by
  induction n with
  | zero => rfl
  | succ n ih => simp [cnt, ih]
theorem cnt_false (n : Nat) : cnt n (fun _ => false) = 0 := by
  induction n with
  | zero => rfl
  | succ n ih => simp [cnt, ih]
theorem all_q (q : Qu) (sec : Bool) : isQ q sec (fun _ => true) = okQ q := by
  by_cases h : rightE q = 0
  · have ho := ok_of h
    have : isQ q sec (fun _ => true) = true := by
      rw [isQ_iff]
      refine ⟨ho, ?_⟩
      cases ho with
      | one N O T s n1 n12 o1 oN t1 tN m =>
        unfold quo
        rw [if_pos rfl]
        simp only [Int.toNat_natCast, cnt_true, decide_eq_true_eq]
        cases sec <;> simp <;> omega
      | two N O T s n1 n12 o1 oN t1 tN m =>
        unfold quo
        rw [if_neg (by simp), if_pos rfl]
        cases sec
        · exact anyN_iff.2 ⟨0, by simp; omega, allN_iff.2 fun i _ => by simp⟩
        · exact anyN_iff.2 ⟨0, by simp; omega, allN_iff.2 fun i _ => by simp⟩
      | three o t s n1 n12 b =>
        unfold quo
        rw [if_neg (by simp), if_neg (by simp)]
        cases sec
        · exact allN_iff.2 fun j hj => anyN_iff.2 ⟨j, hj, by simp⟩
        · exact anyN_iff.2 ⟨0, by simp; omega, allN_iff.2 fun i _ => by simp⟩
    rw [this]
    unfold okQ
    rw [h]
    rfl
  · unfold isQ okQ
    rw [show (rightE q == 0) = false by simp [h]]
    rfl
theorem none_q (q : Qu) (sec : Bool) : isQ q sec (fun _ => false) = false := by
  rw [Bool.eq_false_iff]
  intro h
  rw [isQ_iff] at h
  obtain ⟨ho, h⟩ := h
  cases ho with
  | one N O T s n1 n12 o1 oN t1 tN m =>
    unfold quo at h
    rw [if_pos rfl] at h
    simp only [Int.toNat_natCast, cnt_false, decide_eq_true_eq] at h
    cases sec <;> simp at h <;> omega
  | two N O T s n1 n12 o1 oN t1 tN m =>
    unfold quo at h
    rw [if_neg (by simp), if_pos rfl] at h
    cases sec
    · simp only [Int.toNat_natCast, Bool.false_eq_true, if_false] at h
      obtain ⟨r, hr, h⟩ := anyN_iff.1 h
      have hlt : r * T < N := by
        rw [← m]
        have : (r + 1) * T ≤ O * T := Nat.mul_le_mul_right _ hr
        rw [Nat.add_mul] at this
        omega
      have := allN_iff.1 h _ hlt
      simp [Nat.mul_div_cancel _ (by omega : 0 < T)] at this
    · simp only [Int.toNat_natCast, if_true] at h
      obtain ⟨c, hc, h⟩ := anyN_iff.1 h
      have := allN_iff.1 h c (by omega)
      simp [Nat.mod_eq_of_lt hc] at this
  | three o t s n1 n12 b =>
    unfold quo at h
    rw [if_neg (by simp), if_neg (by simp)] at h
    cases sec
    · simp only [Int.toNat_natCast, Bool.false_eq_true, if_false] at h
      have := allN_iff.1 h 0 n1
      obtain ⟨i, _, h⟩ := anyN_iff.1 this
      simp at h
    · simp only [Int.toNat_natCast, if_true] at h
      obtain ⟨j, hj, h⟩ := anyN_iff.1 h
      have := allN_iff.1 h j hj
      simp at this

/-! ### the least ones -/
theorem leastB_iff {q : Qu} {sec : Bool} {p : Nat → Bool} : leastB q sec p = true ↔ ∀ i, i < q.n.toNat → p i = true → isQ q sec (less p i) = false := by
  unfold leastB
  rw [allN_iff]
  constructor
  · intro h i hi hp
    have := h i hi
    rw [hp] at this
    simpa using this
  · intro h i hi
    cases hp : p i with
    | false => rfl
    | true => rw [h i hi hp]; rfl
theorem mem_leastQ {q : Qu} {sec : Bool} {x : Nat} : x ∈ leastQ q sec ↔ x < 2 ^ q.n.toNat ∧ isQ q sec x.testBit = true ∧ leastB q sec x.testBit = true := by
  unfold leastQ
  by_cases h : rightE q = 0
  · rw [if_pos h]
    unfold leastL isLeast
    rw [List.mem_filter, List.mem_range, Bool.and_eq_true]
  · rw [if_neg h]
    constructor
    · intro hx; cases hx
    · rintro ⟨_, h1, _⟩
      rw [isQ_iff] at h1
      exact absurd h1.1.right h
/-- A set without one of its nodes is a smaller number. -/
theorem bit_le {y i : Nat} (h : y.testBit i = true) : 2 ^ i ≤ y := Nat.ge_two_pow_of_testBit h
theorem or_add {a b : Nat} (ha : a < 4294967296) (hb : b < 4294967296) (h : a &&& b = 0) : a + b = a ||| b := by
  have h0 : BitVec.ofNat 32 a &&& BitVec.ofNat 32 b = 0#32 := by
    apply BitVec.eq_of_toNat_eq
    rw [BitVec.toNat_and, BitVec.toNat_ofNat, BitVec.toNat_ofNat, Nat.mod_eq_of_lt ha, Nat.mod_eq_of_lt hb, h]
    rfl
  have h1 := BitVec.toNat_add_of_and_eq_zero h0
  rw [BitVec.add_eq_or_of_and_eq_zero _ _ h0, BitVec.toNat_or, BitVec.toNat_ofNat, BitVec.toNat_ofNat, Nat.mod_eq_of_lt ha, Nat.mod_eq_of_lt hb] at h1
  exact h1.symm
theorem sub_bit (y i : Nat) (hy : y < 4294967296) (h : y.testBit i = true) (j : Nat) : (y - 2 ^ i).testBit j = less y.testBit i j := by
  have e : y ^^^ 2 ^ i = y - 2 ^ i := by
    have h1 : (y ^^^ 2 ^ i) &&& 2 ^ i = 0 := by
      apply Nat.eq_of_testBit_eq
      intro k
      rw [Nat.testBit_and, Nat.testBit_xor, Nat.testBit_two_pow, Nat.zero_testBit]
      by_cases hk : i = k
      · subst hk; simp [h]
      · simp [hk]
    have h2 : (y ^^^ 2 ^ i) ||| 2 ^ i = y := by
      apply Nat.eq_of_testBit_eq
      intro k
      rw [Nat.testBit_or, Nat.testBit_xor, Nat.testBit_two_pow]
      by_cases hk : i = k
      · subst hk; simp [h]
      · simp [hk]
    have h3 := bit_le h
    have h4 : y ^^^ 2 ^ i < 2 ^ 32 := Nat.xor_lt_two_pow (by omega) (by omega)
    have h5 := or_add (by omega) (by omega) h1
    omega
  rw [← e, Nat.testBit_xor, Nat.testBit_two_pow]
  unfold less
  by_cases hj : i = j
  · subst hj; simp [h]
  · simp [hj, Ne.symm hj]
theorem less_le (p : Nat → Bool) (i j : Nat) (h : less p i j = true) : p j = true := by
  unfold less at h
  simp only [Bool.and_eq_true] at h
  exact h.1
/-- Each quorum has a least one within it. -/
theorem some_least (q : Qu) (sec : Bool) : ∀ y : Nat, y < 4294967296 → isQ q sec y.testBit = true → ∃ x, x ≤ y ∧ isQ q sec x.testBit = true ∧ leastB q sec x.testBit = true ∧ ∀ i, x.testBit i = true → y.testBit i = true := by
  intro y
  induction y using Nat.strongRecOn with
  | _ y ih =>
    intro hy h
    cases hl : leastB q sec y.testBit with
    | true => exact ⟨y, Nat.le_refl _, h, hl, fun _ h => h⟩
    | false =>
      have : ∃ i, i < q.n.toNat ∧ y.testBit i = true ∧ isQ q sec (less y.testBit i) = true := by
        apply Classical.byContradiction
        intro hne
        have : leastB q sec y.testBit = true := leastB_iff.2 fun i hi hp => by
          rw [Bool.eq_false_iff]
          intro h1
          exact hne ⟨i, hi, hp, h1⟩
        rw [hl] at this
        cases this
      obtain ⟨i, hi, hp, h1⟩ := this
      have hle := bit_le hp
      have hpos := Nat.two_pow_pos i
      have e := sub_bit y i hy hp
      have h2 : isQ q sec (y - 2 ^ i).testBit = true := by
        rw [show isQ q sec (y - 2 ^ i).testBit = isQ q sec (less y.testBit i) from isQ_congr fun j _ => e j]
        exact h1
      obtain ⟨x, hx, h3, h4, h5⟩ := ih (y - 2 ^ i) (by omega) (by omega) h2
      exact ⟨x, by omega, h3, h4, fun j hj => less_le _ i j (by rw [← e j]; exact h5 j hj)⟩
theorem and_sub {x y : Nat} : x &&& y = x ↔ ∀ i, x.testBit i = true → y.testBit i = true := by
  constructor
  · intro h i hi
    have := congrArg (fun z => Nat.testBit z i) h
    simp only [Nat.testBit_and, hi, Bool.true_and] at this
    exact this
  · intro h
    apply Nat.eq_of_testBit_eq
    intro i
    rw [Nat.testBit_and]
    cases hi : x.testBit i with
    | false => rfl
    | true => rw [h i hi]; rfl
/-- A set is a quorum where a least one is within it. -/
theorem serves (q : Qu) (sec : Bool) (X : Nat) (hX : X < 4294967296) : ((leastQ q sec).any fun x => x &&& X == x) = isQ q sec X.testBit := by
  rw [Bool.eq_iff_iff, List.any_eq_true]
  constructor
  · rintro ⟨x, hx, h⟩
    obtain ⟨_, h1, _⟩ := mem_leastQ.1 hx
    rw [beq_iff_eq] at h
    exact isQ_mono (fun i _ hi => and_sub.1 h i hi) h1
  · intro h
    have ho := (isQ_iff.1 h).1
    have hn := ho.n
    have h2 : isQ q sec (X % 2 ^ q.n.toNat).testBit = true := by
      rw [isQ_congr (p' := X.testBit) fun i hi => cut_bit _ X i hi]; exact h
    have hlt : X % 2 ^ q.n.toNat < 2 ^ q.n.toNat := Nat.mod_lt _ (Nat.two_pow_pos _)
    have hle : X % 2 ^ q.n.toNat ≤ X := Nat.mod_le _ _
    obtain ⟨x, hx, h3, h4, h5⟩ := some_least q sec (X % 2 ^ q.n.toNat) (by omega) h2
    refine ⟨x, mem_leastQ.2 ⟨by omega, h3, h4⟩, ?_⟩
    rw [beq_iff_eq, and_sub]
    intro i hi
    have := h5 i hi
    rw [Nat.testBit_mod_two_pow] at this
    simp only [Bool.and_eq_true] at this
    exact this.2
/-- Two least ones are never within one another. -/
theorem least_apart {q : Qu} {sec : Bool} {x y : Nat} (hx : x ∈ leastQ q sec) (hy : y ∈ leastQ q sec) (hne : x ≠ y) : ¬ x &&& y = x := by
  intro h
  obtain ⟨lx, qx, _⟩ := mem_leastQ.1 hx
  obtain ⟨ly, qy, my⟩ := mem_leastQ.1 hy
  rw [and_sub] at h
  have : ∃ i, i < q.n.toNat ∧ x.testBit i = false ∧ y.testBit i = true := by
    apply Classical.byContradiction
    intro hno
    apply hne
    refine bits_eq lx ly fun i hi => ?_
    cases e1 : x.testBit i with
    | true => rw [h i e1]
    | false =>
      cases e2 : y.testBit i with
      | false => rfl
      | true => exact absurd ⟨i, hi, e1, e2⟩ hno
  obtain ⟨i, hi, e1, e2⟩ := this
  have h1 := leastB_iff.1 my i hi e2
  have h2 : isQ q sec (less y.testBit i) = true := isQ_mono (fun j _ hj => by
    unfold less
    rw [h j hj]
    by_cases hji : j = i
    · rw [hji, e1] at hj; cases hj
    · simp [hji]) qx
  rw [h2] at h1
  cases h1
theorem leastL_lt (q : Qu) (sec : Bool) (m : Nat) : (leastL q sec m).Pairwise (· < ·) := by
  unfold leastL
  exact List.Pairwise.filter _ List.pairwise_lt_range
theorem leastQ_lt (q : Qu) (sec : Bool) : (leastQ q sec).Pairwise (· < ·) := by
  unfold leastQ
  split
  · exact leastL_lt _ _ _
  · exact List.Pairwise.nil
theorem leastQ_len (q : Qu) (sec : Bool) : (leastQ q sec).length ≤ 4096 := by
  unfold leastQ
  split
  · rename_i h
    have hn := (ok_of h).n
    have := leastL_len q sec (2 ^ q.n.toNat)
    have h2 : (2 : Nat) ^ q.n.toNat ≤ 2 ^ 12 := Nat.pow_le_pow_right (by omega) hn.2.1
    omega
  · simp
theorem leastQ_small {q : Qu} {sec : Bool} {x : Nat} (h : x ∈ leastQ q sec) : x < 4096 := by
  obtain ⟨h1, h2, _⟩ := mem_leastQ.1 h
  have hn := (isQ_iff.1 h2).1.n
  have h3 : (2 : Nat) ^ q.n.toNat ≤ 2 ^ 12 := Nat.pow_le_pow_right (by omega) hn.2.1
  omega

/-! ### how many may be gone -/
theorem cnt_not (n : Nat) (p : Nat → Bool) : cnt n (nots p) + cnt n p = n := by
  induction n with
  | zero => rfl
  | succ n ih =>
    simp only [cnt]
    rcases Bool.eq_false_or_eq_true (p n) with h1 | h1 <;> simp only [nots, h1] <;> simp <;> omega
/-- A set of so many can be filled up to m nodes. -/
theorem fill_up (n m : Nat) (hm : m ≤ n) (p : Nat → Bool) (hp : cnt n p ≤ m) : ∃ p' : Nat → Bool, cnt n p' = m ∧ ∀ i, p i = true → p' i = true := by
  obtain ⟨d, hd⟩ : ∃ d, cnt n p + d = m := ⟨m - cnt n p, by omega⟩
  induction d generalizing p with
  | zero => exact ⟨p, by omega, fun _ h => h⟩
  | succ d ih =>
    have h1 := cnt_not n p
    obtain ⟨i, hi, h2⟩ := cnt_pos (n := n) (p := nots p) (by omega)
    have h3 : p i = false := by simpa [nots] using h2
    have h4 : ∀ k, cnt k (fun j => p j || decide (j = i)) = cnt k p + if i < k then 1 else 0 := by
      intro k
      induction k with
      | zero => rfl
      | succ k ihk =>
        simp only [cnt]
        rw [ihk]
        by_cases hk : k = i
        · subst hk; simp [h3]
        · by_cases h5 : i < k
          · simp [hk, h5, show i < k + 1 by omega]; omega
          · simp [hk, h5, show ¬ i < k + 1 by omega]
    have h5 := h4 n
    rw [if_pos hi] at h5
    obtain ⟨p', h6, h7⟩ := ih (fun j => p j || decide (j = i)) (by omega) (by omega)
    exact ⟨p', h6, fun j hj => h7 j (by simp [hj])⟩
theorem reachB_iff {q : Qu} {m : Nat} : reachB q m = true ↔ ∀ x, x < 2 ^ q.n.toNat → cnt q.n.toNat x.testBit = m → isQ q false (nots x.testBit) = true ∧ isQ q true (nots x.testBit) = true := by
  unfold reachB
  rw [allN_iff]
  constructor
  · intro h x hx hc
    have := h x hx
    rw [decide_eq_true hc] at this
    simpa using this
  · intro h x hx
    by_cases hc : cnt q.n.toNat x.testBit = m
    · obtain ⟨h1, h2⟩ := h x hx hc
      rw [h1, h2]; simp
    · rw [decide_eq_false hc]; rfl
/-- The same of any set of nodes. -/
theorem reachB_any {q : Qu} {m : Nat} (h : reachB q m = true) (p : Nat → Bool) (hc : cnt q.n.toNat p = m) : isQ q false (nots p) = true ∧ isQ q true (nots p) = true := by
  have e : ∀ i, i < q.n.toNat → (mask q.n.toNat p).testBit i = p i := fun i hi => by rw [mask_bit]; simp [hi]
  obtain ⟨h1, h2⟩ := reachB_iff.1 h _ (mask_lt _ p) (by rw [cnt_congr e]; exact hc)
  have e2 : ∀ i, i < q.n.toNat → nots (mask q.n.toNat p).testBit i = nots p i := fun i hi => by unfold nots; rw [e i hi]
  rw [isQ_congr e2] at h1 h2
  exact ⟨h1, h2⟩
theorem gone_less {q : Qu} {m : Nat} (hm : m ≤ q.n.toNat) (h : reachB q m = true) (p : Nat → Bool) (hc : cnt q.n.toNat p ≤ m) : isQ q false (nots p) = true ∧ isQ q true (nots p) = true := by
  obtain ⟨p', h1, h2⟩ := fill_up _ m hm p hc
  obtain ⟨h3, h4⟩ := reachB_any h p' h1
  have h5 : ∀ i, i < q.n.toNat → nots p' i = true → nots p i = true := fun i _ hi => by
    unfold nots at *
    cases e : p i with
    | false => rfl
    | true => rw [h2 i e] at hi; cases hi
  exact ⟨isQ_mono h5 h3, isQ_mono h5 h4⟩
theorem gone_more {q : Qu} {m k : Nat} (hk : k ≤ q.n.toNat) (hmk : m ≤ k) (h : reachB q m = false) : reachB q k = false := by
  rw [Bool.eq_false_iff] at *
  intro h1
  apply h
  rw [reachB_iff]
  intro x hx hc
  exact gone_less hk h1 x.testBit (by omega)
end Go.Proofs.Ytpcfeiejfomnoaa
