/- The walks of BucketSplit, BucketWaits, BucketBound, BucketGrows. -/
import Derived.Test.YtahjimjlialmbaaSix
namespace Go.Proofs.Ytahjimjlialmbaa
open Go.RowKit

/-- int(uint(x) % m). -/
theorem um_bd (x m : Int) (hm : 1 ≤ m) (hm' : m ≤ 4611686018427387904) : 0 ≤ wrap64 ((IntKind.u64.wrap x).tmod m) ∧ wrap64 ((IntKind.u64.wrap x).tmod m) < m := by
  have h0 : 0 ≤ IntKind.u64.wrap x := by rw [IntKind.wrap_u64]; exact Int.emod_nonneg _ (by omega)
  rw [Int.tmod_eq_emod_of_nonneg h0]
  have h1 := Int.emod_nonneg (IntKind.u64.wrap x) (b := m) (by omega)
  have h2 := Int.emod_lt_of_pos (IntKind.u64.wrap x) (b := m) (by omega)
  rw [IntWalk.wrap64_in _ ⟨by omega, by omega⟩]
  exact ⟨h1, h2⟩

theorem tick_two {r s l : Int} (h : Ok3 r s l) (a c : Int) (ha : 0 ≤ a) (hc : 0 ≤ c) : tickL r s (tickL r s l a) c = tickL r s l (a + c) := by
  obtain ⟨_, _, _, _, _, _⟩ := h
  have h1 : 0 ≤ a * r := Int.mul_nonneg ha (by omega)
  have h2 : 0 ≤ c * r := Int.mul_nonneg hc (by omega)
  have h3 : (a + c) * r = a * r + c * r := Int.add_mul _ _ _
  unfold tickL
  rw [h3]
  by_cases ha1 : 1 ≤ a
  · rw [if_pos ha1, if_pos (show 1 ≤ a + c by omega)]
    by_cases hc1 : 1 ≤ c
    · rw [if_pos hc1]; omega
    · obtain rfl : c = 0 := by omega
      rw [if_neg hc1]; omega
  · obtain rfl : a = 0 := by omega
    rw [if_neg ha1, Int.zero_add]
    by_cases hc1 : 1 ≤ c
    · rw [if_pos hc1, if_pos hc1]; omega
    · rw [if_neg hc1, if_neg hc1]
theorem tick_none (r s l t : Int) (ht : t ≤ 0) : tickL r s l t = l := by unfold tickL; rw [if_neg (by omega)]

set_option maxRecDepth 100000 in
set_option maxHeartbeats 2000000 in
theorem split_any (r s take a c : Int) (w : World) (ht : i64 take) :
    Calls Try.prog 7 #[.int .i64 r, .int .i64 s, .int .i64 take, .int .i64 a, .int .i64 c] w fun e w' => e = .returned (.bool true) ∧ Below w.heap.size w w' := by
  by_cases ho : Ok3 r s s
  · obtain ⟨ht1, ht2⟩ := ht
    go_enter Try.func7, Try.ntmps7
    go_wp2_with fail
    refine (new_ok r s w ho w.heap.size (Nat.le_refl _)).mono ?_
    rintro e w1 ⟨b, hB, -, rfl, hb, hf1⟩
    have hbl := hb.lt
    go_wp2_with fail
    refine (new_ok r s w1 ho w1.heap.size (Nat.le_refl _)).mono ?_
    rintro e w2 ⟨m, hM, hms, rfl, hm, hf2⟩
    have hs1 := hf1.size
    have hne : b ≠ m := by omega
    have hM' : w.heap.size ≤ m := by omega
    replace hb := hb.fr hf2 (by omega)
    replace hf2 := hf1.tr (hf2.mono (Z := fun k => w.heap.size ≤ k) fun _ _ h => by omega)
    clear hf1 hs1 hbl hms hM
    go_upto_region 7 with (fail)
    go_cut [3] (fun s wx => (∃ A, 0 ≤ A ∧ A < 1000000 ∧ s = .int .i64 A) ∧ w2 = wx)
    case first =>
      go_wp2_with fail
      go_meet
      have := um_bd a 1000000 (by omega) (by omega)
      exact ⟨⟨_, this.1, this.2, rfl⟩, rfl⟩
    case rest =>
      obtain ⟨⟨A, hA0, hA1, rfl⟩, rfl⟩ := hcut
      go_upto_region 8 with (fail)
      go_cut [4] (fun s wx => (∃ A, 0 ≤ A ∧ A < 1000000 ∧ s = .int .i64 A) ∧ w2 = wx)
      case first =>
        go_wp2_with fail
        go_meet
        have := um_bd c 1000000 (by omega) (by omega)
        exact ⟨⟨_, this.1, this.2, rfl⟩, rfl⟩
      case rest =>
        obtain ⟨⟨C, hC0, hC1, rfl⟩, rfl⟩ := hcut
        have e1 := tick_two (takes_ok ho take) A C hA0 hC0
        have E1 := Lib.hid e1
        clear e1
        go_wp2_with fail
        refine (take_any b r s s take w2 hb ho ⟨ht1, ht2⟩).mono ?_
        rintro e w3 ⟨rfl, hb3, f3⟩
        replace hm := hm.fr f3 (Ne.symm hne)
        go_wp2_with fail
        refine (take_any m r s s take w3 hm ho ⟨ht1, ht2⟩).mono ?_
        rintro e w4 ⟨rfl, hm4, f4⟩
        replace hb3 := hb3.fr f4 hne
        go_wp2_with fail
        refine (tick_any b r s _ A w4 hb3 (takes_ok ho _) (by omega)).mono ?_
        rintro e w5 ⟨rfl, hb5, f5⟩
        go_wp2_with fail
        refine (tick_any b r s _ C w5 hb5 (ticks_ok (takes_ok ho _) _) (by omega)).mono ?_
        rintro e w6 ⟨rfl, hb6, f6⟩
        replace hm4 := (hm4.fr f5 (Ne.symm hne)).fr f6 (Ne.symm hne)
        go_wp2_with fail
        refine (tick_any m r s _ (A + C) w6 hm4 (takes_ok ho _) (by omega)).mono ?_
        rintro e w7 ⟨rfl, hm7, f7⟩
        go_wp2_with fail
        refine (tick_any m r s _ 0 w7 hm7 (ticks_ok (takes_ok ho _) _) (by omega)).mono ?_
        rintro e w8 ⟨rfl, hm8, f8⟩
        rw [tick_none _ _ _ 0 (by omega)] at hm8
        go_wp2_with fail
        refine (tick_any m r s _ (-5) w8 hm8 (ticks_ok (takes_ok ho _) _) (by omega)).mono ?_
        rintro e w9 ⟨rfl, hm9, f9⟩
        rw [tick_none _ _ _ (-5) (by omega), ← E1.out] at hm9
        replace hb6 := ((hb6.fr f7 hne).fr f8 hne).fr f9 hne
        clear E1
        go_wp2_with fail
        refine (level_any b r s _ w9 hb6).mono ?_
        rintro e wx ⟨rfl, rfl⟩
        go_wp2_with fail
        refine (level_any m r s _ w9 hm9).mono ?_
        rintro e wx ⟨rfl, rfl⟩
        go_wp2_with fail
        refine (known_any w9).mono ?_
        rintro e wy ⟨rfl, hby⟩
        go_wp2_with fail
        go_ret
        have hF := ((((((hf2.tr (f3.up hB)).tr (f4.up hM')).tr (f5.up hB)).tr (f6.up hB)).tr (f7.up hM')).tr (f8.up hM')).tr (f9.up hM')
        exact ⟨rfl, (hF.below (Nat.le_refl _)).trans (hby.mono hF.size)⟩
  · go_enter Try.func7, Try.ntmps7
    go_wp2_with fail
    refine (new_bad r s w ho).mono ?_
    rintro e w1 ⟨rfl, rfl⟩
    go_wp2_with fail
    refine (new_bad r s w ho).mono ?_
    rintro e w1 ⟨rfl, rfl⟩
    go_wp2_with fail
    refine (known_any w).mono ?_
    rintro e w3 ⟨rfl, hb3⟩
    go_wp2_with fail
    go_ret
    exact ⟨rfl, hb3⟩

/-- Behind as many ticks as told there are so many; behind fewer there are not. -/
theorem wait_law {r s l n : Int} (h : Ok3 r s l) : (waitV r s l n < 0 → waitV r s l n = -1 ∧ (n < 1 ∨ s < n ∨ r = 0) ∧ takeB (tickL r s l 100000) n = false) ∧
    (0 < waitV r s l n → takeB (tickL r s l (waitV r s l n - 1)) n = false) ∧ (0 ≤ waitV r s l n → takeB (tickL r s l (waitV r s l n)) n = true) ∧ waitV r s l n ≤ 2000000 ∧ -1 ≤ waitV r s l n := by
  obtain ⟨_, _, _, _, _, _⟩ := h
  by_cases h1 : n < 1 ∨ s < n
  · have e : waitV r s l n = -1 := by unfold waitV; rw [if_pos h1]
    have hb := tick_small r s l 100000 ⟨by omega, by omega, by omega, by omega, by omega, by omega⟩
    rw [e]
    refine ⟨fun _ => ⟨rfl, by omega, ?_⟩, by omega, by omega, by omega, by omega⟩
    unfold takeB; simp; omega
  by_cases h2 : n ≤ l
  · have e : waitV r s l n = 0 := by unfold waitV; rw [if_neg h1, if_pos h2]
    rw [e]
    refine ⟨by omega, by omega, fun _ => ?_, by omega, by omega⟩
    rw [tick_none _ _ _ 0 (by omega)]
    unfold takeB; simp; omega
  by_cases h3 : r = 0
  · have e : waitV r s l n = -1 := by unfold waitV; rw [if_neg h1, if_neg h2, if_pos h3]
    rw [e]
    refine ⟨fun _ => ⟨rfl, by omega, ?_⟩, by omega, by omega, by omega, by omega⟩
    unfold takeB tickL; subst h3; simp; omega
  · have e : waitV r s l n = (n - l + r - 1) / r := by unfold waitV; rw [if_neg h1, if_neg h2, if_neg h3]
    obtain ⟨v, hv⟩ : ∃ v, v = (n - l + r - 1) / r := ⟨_, rfl⟩
    rw [← hv] at e
    rw [e]
    have hr : 0 < r := by omega
    have a1 : r * v + (n - l + r - 1) % r = n - l + r - 1 := by rw [hv]; exact Int.mul_ediv_add_emod _ _
    have a2 := Int.emod_nonneg (n - l + r - 1) (b := r) (by omega)
    have a3 := Int.emod_lt_of_pos (n - l + r - 1) (b := r) (by omega)
    have a4 : r * v = v * r := Int.mul_comm _ _
    have a5 : (v - 1) * r = v * r - r := by rw [Int.sub_mul, Int.one_mul]
    have a6 : 1 ≤ v := by rw [hv, Int.le_ediv_iff_mul_le hr]; omega
    have a7 : v ≤ n - l + r - 1 := by rw [hv]; exact Int.ediv_le_self _ (by omega)
    refine ⟨by omega, fun _ => ?_, fun _ => ?_, by omega, by omega⟩
    · unfold takeB tickL; simp; intro _
      split <;> omega
    · unfold takeB tickL; rw [if_pos a6]; simp; omega
end Go.Proofs.Ytahjimjlialmbaa
