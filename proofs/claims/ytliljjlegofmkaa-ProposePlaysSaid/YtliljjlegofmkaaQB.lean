/- line, site: the sets of a row's nodes, a column's, a site's. -/
import Derived.Test.YtliljjlegofmkaaQA
namespace Go.Proofs.Ytliljjlegofmkaa
open Go.RowKit

/-- A node of the row, or the column, 'at'. -/
def lineP (T at' : Nat) (col : Bool) (i : Nat) : Bool := if col then decide (((i % T : Nat) : Int) = (at' : Int)) else decide (((i / T : Nat) : Int) = (at' : Int))
def siteP (l : List Int) (z : Int) (i : Nat) : Bool := decide (l[i]? = some z)
theorem mask_lt12 {n : Nat} (hn : n ≤ 12) (p : Nat → Bool) : mask n p < 4096 := Nat.lt_of_lt_of_le (mask_lt n p) (show 2 ^ n ≤ 2 ^ 12 from Nat.pow_le_pow_right (by omega) hn)
theorem pow_int {j : Nat} (hj : j ≤ 12) : (2 : Int) ^ j % 4294967296 = ((2 ^ j : Nat) : Int) := by
  have h : (2 : Nat) ^ j ≤ 2 ^ 12 := Nat.pow_le_pow_right (by omega) hj
  have e : (2 : Int) ^ j = ((2 ^ j : Nat) : Int) := by simp
  rw [e]
  have h2 : (2 : Nat) ^ 12 = 4096 := rfl
  rw [h2] at h
  generalize (2 : Nat) ^ j = y at h
  omega
theorem or_next {j : Nat} {p : Nat → Bool} (hj : j < 12) (hp : p j = true) : bits .or .u32 ((mask j p : Nat) : Int) ((2 : Int) ^ j % 4294967296) = ((mask (j + 1) p : Nat) : Int) := by
  rw [pow_int (by omega), u32_or_nat _ _ (by have := mask_lt12 (n := j) (by omega) p; omega) (by have : (2 : Nat) ^ j ≤ 2 ^ 12 := Nat.pow_le_pow_right (by omega) (by omega); omega)]
  simp only [mask]
  rw [if_pos hp]
theorem mask_next {j : Nat} {p : Nat → Bool} (hp : p j = false) : mask (j + 1) p = mask j p := by
  simp only [mask]
  rw [if_neg (by rw [hp]; decide)]
theorem ret_u32 {a b : Int} (h : a = b) : Value.int .u32 a = .int .u32 b := by rw [h]

set_option maxRecDepth 100000 in
set_option maxHeartbeats 4000000 in
theorem line_any (k o : Int) (N T at' : Nat) (l : List Int) (col : Bool) (s : Value) (w : World) (hs : Ints w s l) (hN : N ≤ 12) (hT : 1 ≤ T) (hT2 : T ≤ 12) (ha : at' ≤ 12) :
    Calls Try.prog 59 #[.agg #[.int .i64 k, .int .i64 (N : Int), .int .i64 o, .int .i64 (T : Int), s], .int .i64 (at' : Int), .bool col] w fun e w' => e = .returned (.int .u32 (mask N (lineP T at' col) : Nat)) ∧ Fr (fun _ => False) w w' := by
  obtain ⟨A, c, rfl, -⟩ := hs
  have hf := (Fr.refl (fun _ => False) w).alloc (.cells #[.int .i64 k, .int .i64 (N : Int), .int .i64 o, .int .i64 (T : Int), .slice A l.length c] 24)
  have HF := Lib.hid hf
  clear hf
  have hT' : (1 : Int) ≤ (T : Int) := by omega
  have _u := ha
  clear _u
  cases col with
  | false =>
    go_enter Try.func59, Try.ntmps59
    go_wp2_with fail
    go_loopg [7, 11] N (fun g x7 x11 wr => ∃ (j : Nat), j + g = N ∧ x7 = .int .u32 (mask j (lineP T at' false) : Nat) ∧ x11 = .int .i64 j ∧ wr = w.alloc (.cells #[.int .i64 k, .int .i64 (N : Int), .int .i64 o, .int .i64 (T : Int), .slice A l.length c] 24))
    case atStart => exact ⟨0, by omega, rfl, rfl, rfl⟩
    case round =>
      obtain ⟨j, hj, rfl, rfl, hw⟩ := hrel
      have HJ := Lib.hid hj
      have hj' : j ≤ N := by omega
      clear hj
      subst hw
      have hm := mask_lt12 (n := j) (by omega) (lineP T at' false)
      have hd1 : 0 ≤ (j : Int) / (T : Int) := Int.ediv_nonneg (by omega) (by omega)
      have hd2 : (j : Int) / (T : Int) ≤ 12 := Int.le_trans (Int.ediv_le_self _ (by omega)) (by omega)
      by_cases hlt : j < N
      · cases hp : lineP T at' false j with
        | true =>
          have hp' : ((j : Int) / (T : Int) == (at' : Int)) = true := by simpa [lineP] using hp
          have HP := Lib.hid hp
          clear hp
          go_wp2_with fail
          go_roundg (N - (j + 1))
          case measure => have := HJ.out; omega
          case rel => exact ⟨j + 1, by have := HJ.out; omega, ret_u32 (or_next (by omega) HP.out), by go_num, rfl⟩
        | false =>
          have hp' : ((j : Int) / (T : Int) == (at' : Int)) = false := by simpa [lineP] using hp
          have HP := Lib.hid hp
          clear hp
          go_wp2_with fail
          go_roundg (N - (j + 1))
          case measure => have := HJ.out; omega
          case rel => exact ⟨j + 1, by have := HJ.out; omega, by rw [mask_next HP.out], by go_num, rfl⟩
      · obtain rfl : j = N := by omega
        go_wp2_with fail
        go_ret
        exact ⟨rfl, HF.out⟩
  | true =>
    go_enter Try.func59, Try.ntmps59
    go_wp2_with fail
    go_loopg [7, 11] N (fun g x7 x11 wr => ∃ (j : Nat), j + g = N ∧ x7 = .int .u32 (mask j (lineP T at' true) : Nat) ∧ x11 = .int .i64 j ∧ wr = w.alloc (.cells #[.int .i64 k, .int .i64 (N : Int), .int .i64 o, .int .i64 (T : Int), .slice A l.length c] 24))
    case atStart => exact ⟨0, by omega, rfl, rfl, rfl⟩
    case round =>
      obtain ⟨j, hj, rfl, rfl, hw⟩ := hrel
      have HJ := Lib.hid hj
      have hj' : j ≤ N := by omega
      clear hj
      subst hw
      have hm := mask_lt12 (n := j) (by omega) (lineP T at' true)
      have hd1 : 0 ≤ (j : Int) / (T : Int) := Int.ediv_nonneg (by omega) (by omega)
      have hd2 : (j : Int) / (T : Int) ≤ 12 := Int.le_trans (Int.ediv_le_self _ (by omega)) (by omega)
      by_cases hlt : j < N
      · cases hp : lineP T at' true j with
        | true =>
          have hp' : ((j : Int) % (T : Int) == (at' : Int)) = true := by simpa [lineP] using hp
          have HP := Lib.hid hp
          clear hp
          go_wp2_with fail
          go_roundg (N - (j + 1))
          case measure => have := HJ.out; omega
          case rel => exact ⟨j + 1, by have := HJ.out; omega, ret_u32 (or_next (by omega) HP.out), by go_num, rfl⟩
        | false =>
          have hp' : ((j : Int) % (T : Int) == (at' : Int)) = false := by simpa [lineP] using hp
          have HP := Lib.hid hp
          clear hp
          go_wp2_with fail
          go_roundg (N - (j + 1))
          case measure => have := HJ.out; omega
          case rel => exact ⟨j + 1, by have := HJ.out; omega, by rw [mask_next HP.out], by go_num, rfl⟩
      · obtain rfl : j = N := by omega
        go_wp2_with fail
        go_ret
        exact ⟨rfl, HF.out⟩

set_option maxRecDepth 100000 in
set_option maxHeartbeats 4000000 in
theorem site_any (k n o t z : Int) (l : List Int) (s : Value) (w : World) (hs : Ints w s l) (hN : l.length ≤ 12) :
    Calls Try.prog 60 #[.agg #[.int .i64 k, .int .i64 n, .int .i64 o, .int .i64 t, s], .int .i64 z] w fun e w' => e = .returned (.int .u32 (mask l.length (siteP l z) : Nat)) ∧ Fr (fun _ => False) w w' := by
  have hs0 := hs
  obtain ⟨A, c, rfl, -⟩ := hs0
  obtain ⟨w1, hw1⟩ : ∃ w1, w1 = w.alloc (.cells #[.int .i64 k, .int .i64 n, .int .i64 o, .int .i64 t, .slice A l.length c] 24) := ⟨_, rfl⟩
  have hf : Fr (fun _ => False) w w1 := by rw [hw1]; exact (Fr.refl _ w).alloc _
  have hb : Blk w1 w.heap.size 24 #[.int .i64 k, .int .i64 n, .int .i64 o, .int .i64 t, .slice A l.length c] := by rw [hw1]; exact Blk.new _ _ _
  have hs1 := hs.up hf
  have HF := Lib.hid hf
  have HS := Lib.hid hs1
  have HW := Lib.hid hw1
  have b4 := hb.cell 4 rfl
  clear hf hs1 hs hw1 hb
  go_enter Try.func60, Try.ntmps60
  go_upto_region 1 with (fail)
  rw [← HW.out]
  clear HW
  go_wp2_with fail
  go_loopg [5, 11] l.length (fun g x5 x11 wr => ∃ (j : Nat), j + g = l.length ∧ x5 = .int .u32 (mask j (siteP l z) : Nat) ∧ x11 = .int .i64 j ∧ w1 = wr)
  case atStart => exact ⟨0, by omega, rfl, rfl, rfl⟩
  case round =>
    obtain ⟨j, hj, rfl, rfl, hw⟩ := hrel
    have HJ := Lib.hid hj
    have hj' : j ≤ l.length := by omega
    clear hj
    subst hw
    have hm := mask_lt12 (n := j) (by omega) (siteP l z)
    by_cases hlt : j < l.length
    · obtain ⟨y, hy⟩ : ∃ y, l[j]? = some y := ⟨_, List.getElem?_eq_getElem hlt⟩
      obtain ⟨A', c', hA, h2⟩ := HS.out
      obtain ⟨b, off, rfl, h3⟩ := h2 (by rintro rfl; simp at hlt)
      injection hA with hA1 _ hA3
      subst hA1 hA3
      have q0 := h3 j y hy
      clear h2 h3
      cases hp : siteP l z j with
      | true =>
        have hp' : (y == z) = true := by simpa [siteP, hy] using hp
        have HP := Lib.hid hp
        clear hp hy
        go_wp2_with fail
        go_roundg (l.length - (j + 1))
        case measure => have := HJ.out; omega
        case rel => exact ⟨j + 1, by have := HJ.out; omega, ret_u32 (or_next (by omega) HP.out), by go_num, rfl⟩
      | false =>
        have hp' : (y == z) = false := by simpa [siteP, hy] using hp
        have HP := Lib.hid hp
        clear hp hy
        go_wp2_with fail
        go_roundg (l.length - (j + 1))
        case measure => have := HJ.out; omega
        case rel => exact ⟨j + 1, by have := HJ.out; omega, by rw [mask_next HP.out], by go_num, rfl⟩
    · obtain rfl : j = l.length := by omega
      go_wp2_with fail
      go_ret
      exact ⟨rfl, HF.out⟩
end Go.Proofs.Ytliljjlegofmkaa
