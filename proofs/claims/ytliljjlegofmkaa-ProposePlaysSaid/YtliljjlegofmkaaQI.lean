/- The document's Has, Count. -/
import Derived.Test.YtliljjlegofmkaaQC
namespace Go.Proofs.Ytliljjlegofmkaa
open Go.RowKit

set_option maxHeartbeats 2000000 in
theorem has_any (X i : Nat) (hX : X < 4294967296) (hi : i < 12) (w : World) :
    Calls Try.prog 13 #[.int .u32 (X : Int), .int .i64 (i : Int)] w fun e w' => e = .returned (.bool (X.testBit i)) ∧ w = w' := by
  have h2 : ((X : Int) / 2 ^ i).tmod 2 = if X.testBit i = true then 1 else 0 := by
    have e : ((X / 2 ^ i : Nat) : Int) = (X : Int) / 2 ^ i := by simp
    rw [← e, Int.tmod_eq_emod_of_nonneg (Int.natCast_nonneg _), Nat.testBit_eq_decide_div_mod_eq]
    by_cases h : X / 2 ^ i % 2 = 1
    · simp only [h, decide_true, if_true]; omega
    · simp only [h, decide_false, Bool.false_eq_true, if_false]; omega
  have hmin : min i 32 = i := by omega
  have _u := hX
  clear _u
  cases ht : X.testBit i with
  | true =>
    rw [ht] at h2
    simp only [if_true] at h2
    clear ht
    go_enter Try.func13, Try.ntmps13
    go_wp2_with fail
    go_ret
    exact ⟨rfl, rfl⟩
  | false =>
    rw [ht] at h2
    simp only [Bool.false_eq_true, if_false] at h2
    clear ht
    go_enter Try.func13, Try.ntmps13
    go_wp2_with fail
    go_ret
    exact ⟨rfl, rfl⟩

set_option maxHeartbeats 2000000 in
theorem count_any (X : Nat) (n : Int) (hX : X < 4294967296) (hn : n ≤ 12) (w : World) :
    Calls Try.prog 39 #[.int .u32 (X : Int), .int .i64 n] w fun e w' => e = .returned (.int .i64 (cnt n.toNat X.testBit : Nat)) ∧ w = w' := by
  by_cases h0 : n < 0
  · have e : n.toNat = 0 := by omega
    rw [e]
    clear e
    go_enter Try.func39, Try.ntmps39
    go_wp2_with fail
    go_loopg [5, 6] 0 (fun g x5 x6 wr => x5 = .int .i64 0 ∧ x6 = .int .i64 0 ∧ w = wr)
    case atStart => exact ⟨rfl, rfl, rfl⟩
    case round =>
      obtain ⟨rfl, rfl, hw⟩ := hrel
      subst hw
      go_wp2_with fail
      go_ret
      exact ⟨rfl, rfl⟩
  · obtain ⟨N, rfl⟩ := Int.eq_ofNat_of_zero_le (show 0 ≤ n by omega)
    rw [Int.toNat_natCast]
    go_enter Try.func39, Try.ntmps39
    go_wp2_with fail
    go_loopg [5, 6] N (fun g x5 x6 wr => ∃ j : Nat, j + g = N ∧ x5 = .int .i64 (cnt j X.testBit : Nat) ∧ x6 = .int .i64 j ∧ w = wr)
    case atStart => exact ⟨0, by omega, rfl, rfl, rfl⟩
    case round =>
      obtain ⟨j, hj, rfl, rfl, hw⟩ := hrel
      have HJ := Lib.hid hj
      have hj' : j ≤ N := by omega
      have hc := cnt_le j X.testBit
      clear hj
      subst hw
      by_cases hlt : j < N
      · go_wp2_with fail
        refine (has_any X j hX (by omega) _).mono ?_
        rintro e w' ⟨rfl, rfl⟩
        cases ht : X.testBit j with
        | true =>
          have HT := Lib.hid ht
          clear ht
          go_wp2_with fail
          go_roundg (N - (j + 1))
          case measure => have := HJ.out; omega
          case rel => exact ⟨j + 1, by have := HJ.out; omega, by simp only [cnt]; rw [HT.out]; go_num, by go_num, rfl⟩
        | false =>
          have HT := Lib.hid ht
          clear ht
          go_wp2_with fail
          go_roundg (N - (j + 1))
          case measure => have := HJ.out; omega
          case rel => exact ⟨j + 1, by have := HJ.out; omega, by simp only [cnt]; rw [HT.out]; rfl, by go_num, rfl⟩
      · obtain rfl : j = N := by omega
        go_wp2_with fail
        go_ret
        exact ⟨rfl, rfl⟩
end Go.Proofs.Ytliljjlegofmkaa
