/- Quorums, plainly: what may be, what a quorum is, counted and read off a set's bits. -/
import Derived.Lib.Tables
import Derived.KernelRfl
namespace Go.Proofs.Ytliljjlegofmkaa

/-- A system of quorums. -/
structure Qu where
  k : Int
  n : Int
  o : Int
  t : Int
  s : List Int

/-- May both counts be? -/
def cts (q : Qu) : Bool := decide (1 ≤ q.o ∧ q.o ≤ q.n ∧ 1 ≤ q.t ∧ q.t ≤ q.n)
/-- Is one site out of bounds? -/
def badS (z : Int) : Bool := decide (z < 0 ∨ 12 ≤ z)
/-- What Right answers. -/
def rightE (q : Qu) : Int :=
  if q.n < 1 ∨ 12 < q.n then 2
  else if q.k = 1 then (if cts q then (if q.o + q.t ≤ q.n then 80 else 0) else 2)
  else if q.k = 2 then (if cts q && decide (q.o * q.t = q.n) then 0 else 2)
  else if q.k = 3 then (if decide ((q.s.length : Int) = q.n) && !q.s.any badS then 0 else 2)
  else 2

/-- How many of the first n. -/
def cnt : Nat → (Nat → Bool) → Nat
  | 0, _ => 0
  | n + 1, p => cnt n p + (if p n then 1 else 0)
/-- All of the first n, one of them. -/
def allN : Nat → (Nat → Bool) → Bool
  | 0, _ => true
  | n + 1, p => allN n p && p n
def anyN : Nat → (Nat → Bool) → Bool
  | 0, _ => false
  | n + 1, p => anyN n p || p n
theorem allN_iff {n : Nat} {p : Nat → Bool} : allN n p = true ↔ ∀ i, i < n → p i = true := by
  induction n with
  | zero => simp [allN]
  | succ n ih =>
    simp only [allN, Bool.and_eq_true, ih]
    constructor
    · rintro ⟨h1, h2⟩ i hi
      by_cases h : i = n
      · rw [h]; exact h2
      · exact h1 i (by omega)
    · exact fun h => ⟨fun i hi => h i (by omega), h n (by omega)⟩
theorem anyN_iff {n : Nat} {p : Nat → Bool} : anyN n p = true ↔ ∃ i, i < n ∧ p i = true := by
  induction n with
  | zero => simp [anyN]
  | succ n ih =>
    simp only [anyN, Bool.or_eq_true, ih]
    constructor
    · rintro (⟨i, h1, h2⟩ | h)
      · exact ⟨i, by omega, h2⟩
      · exact ⟨n, by omega, h⟩
    · rintro ⟨i, h1, h2⟩
      by_cases h : i = n
      · exact .inr (h ▸ h2)
      · exact .inl ⟨i, by omega, h2⟩
theorem cnt_congr {n : Nat} {p p' : Nat → Bool} (h : ∀ i, i < n → p i = p' i) : cnt n p = cnt n p' := by
  induction n with
  | zero => rfl
  | succ n ih => simp only [cnt]; rw [ih (fun i hi => h i (by omega)), h n (by omega)]
theorem allN_congr {n : Nat} {p p' : Nat → Bool} (h : ∀ i, i < n → p i = p' i) : allN n p = allN n p' := by
  induction n with
  | zero => rfl
  | succ n ih => simp only [allN]; rw [ih (fun i hi => h i (by omega)), h n (by omega)]
theorem anyN_congr {n : Nat} {p p' : Nat → Bool} (h : ∀ i, i < n → p i = p' i) : anyN n p = anyN n p' := by
  induction n with
  | zero => rfl
  | succ n ih => simp only [anyN]; rw [ih (fun i hi => h i (by omega)), h n (by omega)]
theorem cnt_le (n : Nat) (p : Nat → Bool) : cnt n p ≤ n := by
  induction n with
  | zero => simp [cnt]
  | succ n ih => simp only [cnt]; split <;> omega

/-- The set of those of the first n that p names. -/
def mask : Nat → (Nat → Bool) → Nat
  | 0, _ => 0
  | n + 1, p => if p n then mask n p ||| 2 ^ n else mask n p
theorem mask_bit (n : Nat) (p : Nat → Bool) (i : Nat) : (mask n p).testBit i = (decide (i < n) && p i) := by
  induction n with
  | zero => simp [mask]
  | succ n ih =>
    simp only [mask]
    split
    · rename_i h
      rw [Nat.testBit_or, ih, Nat.testBit_two_pow]
      by_cases hi : n = i
      · subst hi; simp [h]
      · by_cases h2 : i < n
        · simp [h2, hi, show i < n + 1 by omega]
        · simp [h2, hi, show ¬ i < n + 1 by omega]
    · rename_i h
      rw [ih]
      by_cases hi : i = n
      · subst hi; simp [h]
      · by_cases h2 : i < n
        · simp [h2, show i < n + 1 by omega]
        · simp [h2, show ¬ i < n + 1 by omega]
theorem mask_lt (n : Nat) (p : Nat → Bool) : mask n p < 2 ^ n := by
  induction n with
  | zero => simp [mask]
  | succ n ih =>
    simp only [mask]
    split
    · exact Nat.or_lt_two_pow (by rw [Nat.pow_succ]; omega) (by rw [Nat.pow_succ]; have := Nat.two_pow_pos n; omega)
    · rw [Nat.pow_succ]; omega
theorem bits_eq {n x y : Nat} (hx : x < 2 ^ n) (hy : y < 2 ^ n) (h : ∀ i, i < n → x.testBit i = y.testBit i) : x = y := by
  apply Nat.eq_of_testBit_eq
  intro i
  by_cases hi : i < n
  · exact h i hi
  · rw [Nat.testBit_lt_two_pow (Nat.lt_of_lt_of_le hx (Nat.pow_le_pow_right (by omega) (by omega))), Nat.testBit_lt_two_pow (Nat.lt_of_lt_of_le hy (Nat.pow_le_pow_right (by omega) (by omega)))]

/-- Is every one of a group in the set? Is one of it? -/
theorem and_all (n : Nat) (x : Nat) (p : Nat → Bool) : (x &&& mask n p == mask n p) = allN n fun i => !p i || x.testBit i := by
  rw [Bool.eq_iff_iff, beq_iff_eq, allN_iff]
  constructor
  · intro h i hi
    have := congrArg (fun y => Nat.testBit y i) h
    simp only [Nat.testBit_and, mask_bit, hi, decide_true, Bool.true_and] at this
    cases hp : p i with
    | false => rfl
    | true => rw [hp] at this; simpa using this
  · intro h
    apply Nat.eq_of_testBit_eq
    intro i
    rw [Nat.testBit_and, mask_bit]
    by_cases hi : i < n
    · have := h i hi
      cases hp : p i with
      | false => simp
      | true => rw [hp] at this; simp at this; simp [this, hi]
    · simp [hi]
theorem and_none (n : Nat) (x : Nat) (p : Nat → Bool) : (x &&& mask n p == 0) = !anyN n fun i => p i && x.testBit i := by
  rw [Bool.eq_iff_iff, beq_iff_eq, Bool.not_eq_true', ← Bool.not_eq_true, anyN_iff]
  constructor
  · rintro h ⟨i, hi, h2⟩
    have := congrArg (fun y => Nat.testBit y i) h
    simp only [Nat.testBit_and, mask_bit, hi, decide_true, Bool.true_and, Nat.zero_testBit] at this
    rw [Bool.and_comm, this] at h2
    cases h2
  · intro h
    apply Nat.eq_of_testBit_eq
    intro i
    rw [Nat.testBit_and, mask_bit, Nat.zero_testBit]
    by_cases hi : i < n
    · cases h2 : (p i && x.testBit i) with
      | true => exact absurd ⟨i, hi, h2⟩ h
      | false => rw [Bool.and_comm] at h2; simpa [hi] using h2
    · simp [hi]

/-- A quorum of a phase, of those that p names. -/
def quo (q : Qu) (second : Bool) (p : Nat → Bool) : Bool :=
  if q.k = 1 then decide ((if second then q.t else q.o) ≤ (cnt q.n.toNat p : Int))
  else if q.k = 2 then
    if second then anyN q.t.toNat fun c => allN q.n.toNat fun i => !decide (((i % q.t.toNat : Nat) : Int) = (c : Nat)) || p i
    else anyN q.o.toNat fun r => allN q.n.toNat fun i => !decide (((i / q.t.toNat : Nat) : Int) = (r : Nat)) || p i
  else
    if second then anyN q.n.toNat fun j => allN q.n.toNat fun i => !decide (q.s[i]? = q.s[j]?) || p i
    else allN q.n.toNat fun j => anyN q.n.toNat fun i => decide (q.s[i]? = q.s[j]?) && p i
def okQ (q : Qu) : Bool := rightE q == 0
def isQ (q : Qu) (second : Bool) (p : Nat → Bool) : Bool := okQ q && quo q second p
theorem quo_congr {q : Qu} {second : Bool} {p p' : Nat → Bool} (h : ∀ i, i < q.n.toNat → p i = p' i) : quo q second p = quo q second p' := by
  unfold quo
  split
  · rw [cnt_congr h]
  · split
    · split
      · exact anyN_congr fun c _ => allN_congr fun i hi => by rw [h i hi]
      · exact anyN_congr fun c _ => allN_congr fun i hi => by rw [h i hi]
    · split
      · exact anyN_congr fun c _ => allN_congr fun i hi => by rw [h i hi]
      · exact allN_congr fun c _ => anyN_congr fun i hi => by rw [h i hi]
theorem isQ_congr {q : Qu} {second : Bool} {p p' : Nat → Bool} (h : ∀ i, i < q.n.toNat → p i = p' i) : isQ q second p = isQ q second p' := by
  unfold isQ; rw [quo_congr h]
end Go.Proofs.Ytliljjlegofmkaa
