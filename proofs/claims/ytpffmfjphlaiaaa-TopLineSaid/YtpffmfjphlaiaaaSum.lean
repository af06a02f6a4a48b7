/- The frame's sum, in plain Lean: a turned bit turns it. -/
import Derived.Test.YtpffmfjphlaiaaaMem
namespace Go.Proofs.Ytpffmfjphlaiaaa

def crcP : Nat := 3988292384
def crcS (r : Nat) : Nat := if r % 2 = 1 then (r / 2) ^^^ crcP else r / 2
def crc8 (r : Nat) : Nat → Nat
  | 0 => r
  | k + 1 => crc8 (crcS r) k
def crcB (r : Nat) (c : UInt8) : Nat := crc8 (r ^^^ c.toNat) 8
def crcL (r : Nat) : List UInt8 → Nat
  | [] => r
  | c :: l => crcL (crcB r c) l
def sumL (l : List UInt8) : Nat := crcL 4294967295 l ^^^ 4294967295

theorem crcP_lt : crcP < 2 ^ 32 := by decide
theorem crcP_top : crcP.testBit 31 = true := by decide
theorem crcS_lt {r : Nat} (h : r < 2 ^ 32) : crcS r < 2 ^ 32 := by
  unfold crcS
  split
  · exact Nat.xor_lt_two_pow (by omega) crcP_lt
  · omega
theorem half_top {r : Nat} (h : r < 2 ^ 32) : (r / 2).testBit 31 = false := Nat.testBit_lt_two_pow (by omega)
theorem crcS_top {r : Nat} (h : r < 2 ^ 32) : (crcS r).testBit 31 = decide (r % 2 = 1) := by
  unfold crcS
  split
  · rename_i h1; rw [Nat.testBit_xor, half_top h, crcP_top]; simp [h1]
  · rename_i h1; rw [half_top h]; simp [h1]
theorem crcS_inj {a b : Nat} (ha : a < 2 ^ 32) (hb : b < 2 ^ 32) (h : crcS a = crcS b) : a = b := by
  have h1 := crcS_top ha
  have h2 := crcS_top hb
  rw [h, h2] at h1
  have h3 : b % 2 = 1 ↔ a % 2 = 1 := by simpa using h1
  unfold crcS at h
  by_cases h4 : a % 2 = 1
  · rw [if_pos h4, if_pos (h3.2 h4)] at h
    have := congrArg (· ^^^ crcP) h
    simp only [Nat.xor_assoc, Nat.xor_self, Nat.xor_zero] at this
    have h5 := h3.2 h4
    omega
  · have h5 : ¬ b % 2 = 1 := fun e => h4 (h3.1 e)
    rw [if_neg h4, if_neg h5] at h
    omega
theorem crc8_lt : ∀ (k : Nat) {r : Nat}, r < 2 ^ 32 → crc8 r k < 2 ^ 32
  | 0, _, h => h
  | k + 1, _, h => crc8_lt k (crcS_lt h)
theorem crc8_inj : ∀ (k : Nat) {a b : Nat}, a < 2 ^ 32 → b < 2 ^ 32 → crc8 a k = crc8 b k → a = b
  | 0, _, _, _, _, h => h
  | k + 1, _, _, ha, hb, h => crcS_inj ha hb (crc8_inj k (crcS_lt ha) (crcS_lt hb) h)
theorem byte_lt (c : UInt8) : c.toNat < 2 ^ 32 := by have := c.toNat_lt; omega
theorem crcB_lt {r : Nat} (h : r < 2 ^ 32) (c : UInt8) : crcB r c < 2 ^ 32 := crc8_lt 8 (Nat.xor_lt_two_pow h (byte_lt c))
theorem xor_inj {a b c : Nat} (h : a ^^^ c = b ^^^ c) : a = b := by
  have := congrArg (· ^^^ c) h
  simpa only [Nat.xor_assoc, Nat.xor_self, Nat.xor_zero] using this
theorem crcB_inj {a b : Nat} (ha : a < 2 ^ 32) (hb : b < 2 ^ 32) (c : UInt8) (h : crcB a c = crcB b c) : a = b :=
  xor_inj (crc8_inj 8 (Nat.xor_lt_two_pow ha (byte_lt c)) (Nat.xor_lt_two_pow hb (byte_lt c)) h)
theorem crcB_byte {r : Nat} (hr : r < 2 ^ 32) {c d : UInt8} (h : crcB r c = crcB r d) : c = d := by
  have h1 := crc8_inj 8 (Nat.xor_lt_two_pow hr (byte_lt c)) (Nat.xor_lt_two_pow hr (byte_lt d)) h
  rw [Nat.xor_comm r, Nat.xor_comm r] at h1
  exact UInt8.toNat_inj.1 (xor_inj h1)
theorem crcL_lt : ∀ (l : List UInt8) {r : Nat}, r < 2 ^ 32 → crcL r l < 2 ^ 32
  | [], _, h => h
  | c :: l, _, h => crcL_lt l (crcB_lt h c)
theorem crcL_inj : ∀ (l : List UInt8) {a b : Nat}, a < 2 ^ 32 → b < 2 ^ 32 → crcL a l = crcL b l → a = b
  | [], _, _, _, _, h => h
  | c :: l, _, _, ha, hb, h => crcB_inj ha hb c (crcL_inj l (crcB_lt ha c) (crcB_lt hb c) h)
theorem crcL_append : ∀ (l m : List UInt8) (r : Nat), crcL r (l ++ m) = crcL (crcL r l) m
  | [], _, _ => rfl
  | c :: l, m, r => crcL_append l m (crcB r c)
/-- One byte turned: another sum. -/
theorem sumL_turn (a b : List UInt8) {c d : UInt8} (h : sumL (a ++ c :: b) = sumL (a ++ d :: b)) : c = d := by
  have h1 := xor_inj h
  rw [crcL_append, crcL_append] at h1
  have hl : crcL 4294967295 a < 2 ^ 32 := crcL_lt a (by decide)
  exact crcB_byte hl (crcL_inj b (crcB_lt hl c) (crcB_lt hl d) h1)
theorem sumL_lt (l : List UInt8) : sumL l < 2 ^ 32 := Nat.xor_lt_two_pow (crcL_lt l (by decide)) (by decide)

/-! ### Four bytes -/
def fix4 (n : Nat) : List UInt8 := [UInt8.ofNat (n / 16777216), UInt8.ofNat (n / 65536), UInt8.ofNat (n / 256), UInt8.ofNat n]
def unfix : List UInt8 → Nat
  | [a, b, c, d] => ((a.toNat * 256 + b.toNat) * 256 + c.toNat) * 256 + d.toNat
  | _ => 0
theorem unfix_fix {n : Nat} (h : n < 2 ^ 32) : unfix (fix4 n) = n := by
  unfold fix4 unfix
  simp only [UInt8.toNat_ofNat']
  omega
theorem unfix_inj {a b c d a' b' c' d' : UInt8} (h : unfix [a, b, c, d] = unfix [a', b', c', d']) : [a, b, c, d] = [a', b', c', d'] := by
  have h : ((a.toNat * 256 + b.toNat) * 256 + c.toNat) * 256 + d.toNat = ((a'.toNat * 256 + b'.toNat) * 256 + c'.toNat) * 256 + d'.toNat := h
  have := a.toNat_lt; have := b.toNat_lt; have := c.toNat_lt; have := d.toNat_lt
  have := a'.toNat_lt; have := b'.toNat_lt; have := c'.toNat_lt; have := d'.toNat_lt
  have h1 : a.toNat = a'.toNat := by omega
  have h2 : b.toNat = b'.toNat := by omega
  have h3 : c.toNat = c'.toNat := by omega
  have h4 : d.toNat = d'.toNat := by omega
  rw [UInt8.toNat_inj.1 h1, UInt8.toNat_inj.1 h2, UInt8.toNat_inj.1 h3, UInt8.toNat_inj.1 h4]

/-! ### A frame -/
def frHead (k : UInt8) (body : List UInt8) : List UInt8 := [167, k] ++ fix4 body.length ++ body
def frB (k : UInt8) (body : List UInt8) : List UInt8 := frHead k body ++ fix4 (sumL (frHead k body))
theorem frHead_len (k : UInt8) (body : List UInt8) : (frHead k body).length = 6 + body.length := by simp [frHead, fix4]; omega
theorem frB_len (k : UInt8) (body : List UInt8) : (frB k body).length = 10 + body.length := by rw [frB, List.length_append, frHead_len]; simp [fix4]; omega
/-- A bit behind the head turned: the sum says so. -/
theorem frB_turn (k : UInt8) (body : List UInt8) (i : Nat) (c d : UInt8) (hi : (frB k body)[i]? = some c) (hcd : c ≠ d) :
    unfix (((frB k body).set i d).drop (6 + body.length)) ≠ sumL (((frB k body).set i d).take (6 + body.length)) := by
  have hH := frHead_len k body
  have hlt : i < 10 + body.length := by
    have := (List.getElem?_eq_some_iff.1 hi).1
    rwa [frB_len] at this
  by_cases hb : i < 6 + body.length
  · have hset : (frB k body).set i d = (frHead k body).set i d ++ fix4 (sumL (frHead k body)) := by
      unfold frB
      rw [List.set_append_left _ _ (by rw [hH]; exact hb)]
    rw [hset, List.take_left' (by rw [List.length_set, hH]), List.drop_left' (by rw [List.length_set, hH]), unfix_fix (sumL_lt _)]
    have hc : (frHead k body)[i]? = some c := by
      unfold frB at hi
      rwa [List.getElem?_append_left (by rw [hH]; exact hb)] at hi
    obtain ⟨hl, hg⟩ := List.getElem?_eq_some_iff.1 hc
    have e1 : frHead k body = (frHead k body).take i ++ c :: (frHead k body).drop (i + 1) := by
      rw [← hg, List.getElem_cons_drop, List.take_append_drop]
    have e2 : (frHead k body).set i d = (frHead k body).take i ++ d :: (frHead k body).drop (i + 1) := List.set_eq_take_append_cons_drop .. |>.trans (by rw [if_pos hl])
    rw [e2]
    intro h
    have h2 : sumL (frHead k body) = sumL ((frHead k body).take i ++ c :: (frHead k body).drop (i + 1)) := congrArg sumL e1
    rw [h2] at h
    exact hcd (sumL_turn _ _ h)
  · have hset : (frB k body).set i d = frHead k body ++ (fix4 (sumL (frHead k body))).set (i - (6 + body.length)) d := by
      unfold frB
      rw [List.set_append_right _ _ (by rw [hH]; omega), hH]
    rw [hset, List.take_left' hH, List.drop_left' hH]
    have hc : (fix4 (sumL (frHead k body)))[i - (6 + body.length)]? = some c := by
      unfold frB at hi
      rwa [List.getElem?_append_right (by rw [hH]; omega), hH] at hi
    intro h
    have h2 : unfix ((fix4 (sumL (frHead k body))).set (i - (6 + body.length)) d) = unfix (fix4 (sumL (frHead k body))) := by rw [h, unfix_fix (sumL_lt _)]
    obtain ⟨j, hj⟩ : ∃ j, j = i - (6 + body.length) := ⟨_, rfl⟩
    rw [← hj] at h2 hc
    have hj4 : j < 4 := by omega
    have h3 : (fix4 (sumL (frHead k body))).set j d = fix4 (sumL (frHead k body)) := by
      unfold fix4 at h2 ⊢
      match j, hj4 with
      | 0, _ => exact unfix_inj h2
      | 1, _ => exact unfix_inj h2
      | 2, _ => exact unfix_inj h2
      | 3, _ => exact unfix_inj h2
    have h4 : ((fix4 (sumL (frHead k body))).set j d)[j]? = some d := by
      rw [List.getElem?_set_self (by simp [fix4]; omega)]
    rw [h3, hc] at h4
    injection h4 with h4
    exact hcd h4
end Go.Proofs.Ytpffmfjphlaiaaa
