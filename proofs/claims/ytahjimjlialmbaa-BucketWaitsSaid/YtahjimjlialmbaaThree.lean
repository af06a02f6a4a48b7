/- The reference's Wait; Back of both. -/
import Derived.Test.YtahjimjlialmbaaTwo
namespace Go.Proofs.Ytahjimjlialmbaa
open Go.RowKit

set_option maxHeartbeats 800000 in
theorem rwait_loop (b : Nat) (r s l n D : Int) (w : World) (hb : Bk 35 w b r s l) (ho : Ok3 r s l) (hn : n ≤ s) (hl : l < n) (hr : 1 ≤ r) (hD : (n - l - 1) / r = D) :
    Calls Try.prog 18 #[.pointer (some ⟨b, 0, none⟩), .int .i64 n] w fun e w' => e = .returned (.int .i64 (D + 1)) ∧ ∃ q, w' = w.drewN q := by
  obtain ⟨_, _, _, _, _, _⟩ := ho
  have hD0 : 0 ≤ D := by rw [← hD]; exact Int.ediv_nonneg (by omega) (by omega)
  have hD1 : D < 2097152 := by
    have : D ≤ n - l - 1 := by rw [← hD]; exact Int.ediv_le_self _ (by omega)
    omega
  have hcmp : ∀ m : Int, m * r < n - l ↔ m ≤ D := by
    intro m
    rw [← hD, Int.le_ediv_iff_mul_le (by omega)]
    omega
  have HC := Lib.hid hcmp
  clear hcmp hD
  have c0 := hb.c0
  have c1 := hb.c1
  have c2 := hb.c2
  have h6 : (r == 0) = false := by simp; omega
  go_enter Try.func18, Try.ntmps18
  go_wp2
  go_loopw [5, 6] (fun k st wr => ∃ (x y : Int) (q : Nat), k = .int .i64 x ∧ st = .int .i64 y ∧ Halves D x y ∧ wr = w.drewN q) (fun _ st _ => (intOf st).toNat)
  case atStart => exact ⟨0, 1048576, 0, rfl, rfl, halves_start D hD0 hD1, rfl⟩
  case round =>
    obtain ⟨k, st, q, rfl, rfl, ⟨hk0, hh⟩, rfl⟩ := hrel
    rcases hh with ⟨rfl, rfl⟩ | ⟨j, hj, hst, hk1, hk2⟩
    · go_wp2
      go_ret
      exact ⟨rfl, _, rfl⟩
    · have hp := two_pow_bd j hj
      rw [← hst] at hp
      obtain ⟨hp1, hp2⟩ := hp
      have HST := Lib.hid hst
      clear hst
      obtain ⟨m, hm⟩ : ∃ m, m = (k + st) * r := ⟨_, rfl⟩
      have hm0 : 0 ≤ m := by rw [hm]; exact Int.mul_nonneg (by omega) (by omega)
      have hm1 : m ≤ 4194304 * 1000000 := by rw [hm]; exact Int.mul_le_mul (by omega) (by omega) (by omega) (by omega)
      have hm' := hm.symm
      have HC2 := HC.out (k + st)
      rw [hm'] at HC2
      by_cases hlt : l + m < n
      · have hle : k + st ≤ D := by omega
        clear HC2 hm
        go_wp2
        go_quiet (fail)
        go_wp2
        go_roundw
        case rel => exact ⟨k + st, st / 2, _, rfl, rfl, halves_half j hj (by omega) HST.out hle (by omega), rfl⟩
        case measure => simp [intOf]; omega
      · have hle : D < k + st := by omega
        clear HC2 hm
        go_wp2
        go_quiet (fail)
        go_wp2
        go_roundw
        case rel => exact ⟨k, st / 2, _, rfl, rfl, halves_half j hj hk0 HST.out hk1 hle, rfl⟩
        case measure => simp [intOf]; omega

set_option maxHeartbeats 400000 in
theorem rwait_any (b : Nat) (r s l n : Int) (w : World) (hb : Bk 35 w b r s l) (ho : Ok3 r s l) (hn : -9223372036854775808 ≤ n ∧ n ≤ 9223372036854775807) :
    Calls Try.prog 18 #[.pointer (some ⟨b, 0, none⟩), .int .i64 n] w fun e w' => e = .returned (.int .i64 (waitV r s l n)) ∧ ∃ q, w' = w.drewN q := by
  have c0 := hb.c0
  have c1 := hb.c1
  have c2 := hb.c2
  have ho' := ho
  obtain ⟨_, _, _, _, _, _⟩ := ho'
  by_cases h1 : n < 1
  · have e1 : waitV r s l n = -1 := by unfold waitV; rw [if_pos (by omega)]
    rw [e1]; clear e1
    go_enter Try.func18, Try.ntmps18
    go_wp2
    go_ret
    exact ⟨rfl, 0, rfl⟩
  by_cases h3 : s < n
  · have e1 : waitV r s l n = -1 := by unfold waitV; rw [if_pos (by omega)]
    rw [e1]; clear e1
    go_enter Try.func18, Try.ntmps18
    go_wp2
    go_ret
    exact ⟨rfl, 0, rfl⟩
  by_cases h4 : n ≤ l
  · have e1 : waitV r s l n = 0 := by unfold waitV; rw [if_neg (by omega), if_pos h4]
    rw [e1]; clear e1
    go_enter Try.func18, Try.ntmps18
    go_wp2
    go_ret
    exact ⟨rfl, 0, rfl⟩
  by_cases h5 : r = 0
  · have e1 : waitV r s l n = -1 := by unfold waitV; rw [if_neg (by omega), if_neg h4, if_pos h5]
    rw [e1]; clear e1
    subst h5
    go_enter Try.func18, Try.ntmps18
    go_wp2
    go_ret
    exact ⟨rfl, 0, rfl⟩
  · have e1 : waitV r s l n = (n - l - 1) / r + 1 := by unfold waitV; rw [if_neg (by omega), if_neg h4, if_neg h5, ← wait_fin r (n - l) (by omega)]
    rw [e1]
    exact rwait_loop b r s l n _ w hb ho (by omega) (by omega) (by omega) rfl

/-- So many doublings, none above top. -/
def dbl (top : Int) : Nat → Int → Int
  | 0, w => w
  | k + 1, w => min (2 * dbl top k w) top
theorem dbl_bd (top w : Int) (h1 : 1 ≤ w) (h2 : w ≤ top) (k : Nat) : w ≤ dbl top k w ∧ dbl top k w ≤ top := by
  induction k with
  | zero => simp [dbl]; exact h2
  | succ k ih => simp only [dbl]; omega
theorem dbl_top (top w : Int) (h1 : 1 ≤ w) (h2 : w ≤ top) (k : Nat) (h : dbl top k w = top) (j : Nat) (hj : k ≤ j) : dbl top j w = top := by
  induction j with
  | zero => obtain rfl : k = 0 := by omega
            exact h
  | succ j ih =>
    by_cases hk : k = j + 1
    · subst hk; exact h
    · have := ih (by omega)
      simp only [dbl]; omega
def last : Int := 4611686018427387904
def base0 (base : Int) : Int := min base last
def top0 (base most : Int) : Int := min (max most (base0 base)) last
def backW (base most tries : Int) : Int := dbl (top0 base most) (tries - 1).toNat (base0 base)
def backV (base most tries own : Int) : Int :=
  if base < 1 ∨ tries < 1 then 0 else backW base most tries / 2 + backW base most tries % 2 + own % (backW base most tries - (backW base most tries / 2 + backW base most tries % 2) + 1)
theorem top0_bd (base most : Int) (h : 1 ≤ base) : 1 ≤ base0 base ∧ base0 base ≤ top0 base most ∧ top0 base most ≤ 4611686018427387904 := by
  unfold top0 base0 last; omega

end Go.Proofs.Ytahjimjlialmbaa
