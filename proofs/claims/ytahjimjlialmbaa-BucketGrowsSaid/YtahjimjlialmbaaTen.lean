/- The walk of BucketGrows. -/
import Derived.Test.YtahjimjlialmbaaSeven
namespace Go.Proofs.Ytahjimjlialmbaa
open Go.RowKit

theorem tick_nil (t : Int) (w : World) : Calls Try.prog 12 #[.pointer none, .int .i64 t] w fun e w' => e = .returned (.tuple #[]) ∧ w = w' := by
  go_enter Try.func12, Try.ntmps12
  go_wp2
  refine bodyPost_ret (results_none rfl _ _ _) rfl ?_
  exact ⟨rfl, rfl⟩
theorem take_nil (n : Int) (w : World) : Calls Try.prog 14 #[.pointer none, .int .i64 n] w fun e w' => e = .returned (.bool false) ∧ w = w' := by
  go_enter Try.func14, Try.ntmps14
  go_wp2
  go_ret
  exact ⟨rfl, rfl⟩
theorem wait_nil (n : Int) (w : World) : Calls Try.prog 17 #[.pointer none, .int .i64 n] w fun e w' => e = .returned (.int .i64 (-1)) ∧ w = w' := by
  go_enter Try.func17, Try.ntmps17
  go_wp2
  go_ret
  exact ⟨rfl, rfl⟩

theorem grows_law (B M T own : Int) (hB : 1 ≤ B ∧ B ≤ 1000000) (hM : 0 ≤ M ∧ M ≤ 1000000000) (hT : 1 ≤ T) :
    1 ≤ backV B M T own ∧ backV B M T own ≤ max B M ∧ backV B M T 0 ≤ backV B M T own ∧ backV B M T own ≤ 2 * backV B M T 0 ∧ backV B M T 0 ≤ backV B M (T + 1) own ∧ backV B M 1 0 = (B + 1) / 2 := by
  obtain ⟨h1, h2, h3⟩ := top0_bd B M hB.1
  have e0 : base0 B = B := by unfold base0 last; omega
  have et : top0 B M = max M B := by unfold top0; rw [e0]; unfold last; omega
  have hW : B ≤ backW B M T ∧ backW B M T ≤ max M B := by
    have := dbl_bd (top0 B M) (base0 B) h1 h2 (T - 1).toNat
    rw [← et]; rw [e0] at this; unfold backW; rw [e0]; exact this
  have hW' : backW B M T ≤ backW B M (T + 1) := by
    have hb := dbl_bd (top0 B M) (base0 B) h1 h2 (T - 1).toNat
    unfold backW
    rw [show (T + 1 - 1).toNat = (T - 1).toNat + 1 by omega]
    simp only [dbl]; omega
  have hV : ∀ o, backV B M T o = backW B M T / 2 + backW B M T % 2 + o % (backW B M T - (backW B M T / 2 + backW B M T % 2) + 1) := fun o => by unfold backV; rw [if_neg (by omega)]
  have hV' : backV B M (T + 1) own = backW B M (T + 1) / 2 + backW B M (T + 1) % 2 + own % (backW B M (T + 1) - (backW B M (T + 1) / 2 + backW B M (T + 1) % 2) + 1) := by unfold backV; rw [if_neg (by omega)]
  have hV1 : backV B M 1 0 = B / 2 + B % 2 := by
    have : backW B M 1 = B := by unfold backW; simp [dbl, e0]
    unfold backV; rw [if_neg (by omega), this, Int.zero_emod, Int.add_zero]
  rw [hV own, hV 0, hV', hV1, Int.zero_emod]
  obtain ⟨W, eW⟩ : ∃ W, W = backW B M T := ⟨_, rfl⟩
  obtain ⟨X, eX⟩ : ∃ X, X = backW B M (T + 1) := ⟨_, rfl⟩
  rw [← eW] at hW hW' ⊢
  rw [← eX] at hW' ⊢
  have q1 := Int.emod_nonneg own (b := W - (W / 2 + W % 2) + 1) (by omega)
  have q2 := Int.emod_lt_of_pos own (b := W - (W / 2 + W % 2) + 1) (by omega)
  have q3 := Int.emod_nonneg own (b := X - (X / 2 + X % 2) + 1) (by omega)
  omega

set_option maxRecDepth 100000 in
set_option maxHeartbeats 2000000 in
theorem grows_any (b0 m0 t0 own : Int) (w : World) (ho : 0 ≤ own ∧ own < 18446744073709551616) :
    Calls Try.prog 8 #[.int .i64 b0, .int .i64 m0, .int .i64 t0, .int .u64 own] w fun e w' => e = .returned (.bool true) ∧ Below w.heap.size w w' := by
  go_enter Try.func8, Try.ntmps8
  go_upto_region 1 with (fail)
  go_cut [0] (fun s wx => (∃ A, 1 ≤ A ∧ A ≤ 1000000 ∧ s = .int .i64 A) ∧ w = wx)
  case first =>
    obtain ⟨h1, h2⟩ := um_bd b0 1000000 (by omega) (by omega)
    go_wp2_with fail
    go_meet
    exact ⟨⟨_, by omega, by omega, rfl⟩, rfl⟩
  case rest =>
    obtain ⟨⟨B, hB0, hB1, rfl⟩, rfl⟩ := hcut
    go_upto_region 2 with (fail)
    go_cut [1] (fun s wx => (∃ A, 0 ≤ A ∧ A < 1000000000 ∧ s = .int .i64 A) ∧ w = wx)
    case first =>
      obtain ⟨h1, h2⟩ := um_bd m0 1000000000 (by omega) (by omega)
      go_wp2_with fail
      go_meet
      exact ⟨⟨_, by omega, by omega, rfl⟩, rfl⟩
    case rest =>
      obtain ⟨⟨M, hM0, hM1, rfl⟩, rfl⟩ := hcut
      go_upto_region 3 with (fail)
      go_cut [2] (fun s wx => (∃ A, 1 ≤ A ∧ A ≤ 70 ∧ s = .int .i64 A) ∧ w = wx)
      case first =>
        obtain ⟨h1, h2⟩ := um_bd t0 70 (by omega) (by omega)
        go_wp2_with fail
        go_meet
        exact ⟨⟨_, by omega, by omega, rfl⟩, rfl⟩
      case rest =>
        obtain ⟨⟨T, hT0, hT1, rfl⟩, rfl⟩ := hcut
        obtain ⟨g1, g2, g3, g4, g5, g6⟩ := grows_law B M T own ⟨hB0, hB1⟩ ⟨hM0, by omega⟩ hT0
        have G6 := Lib.hid g6
        clear g6
        obtain ⟨x, hx⟩ : ∃ x, x = backV B M T own := ⟨_, rfl⟩
        obtain ⟨y, hy⟩ : ∃ y, y = backV B M T 0 := ⟨_, rfl⟩
        obtain ⟨z, hz⟩ : ∃ z, z = backV B M (T + 1) own := ⟨_, rfl⟩
        rw [← hx] at g1 g2 g3 g4
        rw [← hy] at g3 g4 g5
        rw [← hz] at g5
        have HX := Lib.hid hx
        have HY := Lib.hid hy
        have HZ := Lib.hid hz
        clear hx hy hz
        go_wp2_with fail
        refine (back_any B M T own w (by omega) (by omega) (by omega) ho).mono ?_
        rintro e w1 ⟨rfl, rfl⟩
        rw [← HX.out]
        go_wp2_with fail
        refine (back_any B M (T + 1) own w (by omega) (by omega) (by omega) ho).mono ?_
        rintro e w1 ⟨rfl, rfl⟩
        rw [← HZ.out]
        go_upto_region 6 with (fail)
        go_cut [11] (fun s wx => (s = .int .i64 (max B M)) ∧ w = wx)
        case first =>
          go_wp2_with fail
          all_goals (go_meet; exact ⟨by congr 1; omega, rfl⟩)
        case rest =>
          obtain ⟨rfl, rfl⟩ := hcut
          obtain ⟨mx, hmx⟩ : ∃ mx, mx = max B M := ⟨_, rfl⟩
          rw [← hmx] at g2 ⊢
          have hmx2 : mx ≤ 1000000000 := by omega
          clear hmx
          go_wp2_with fail
          refine (back_any B M T 0 w (by omega) (by omega) (by omega) (by omega)).mono ?_
          rintro e w1 ⟨rfl, rfl⟩
          rw [← HY.out]
          go_wp2_with fail
          refine (back_any B M 1 0 w (by omega) (by omega) (by omega) (by omega)).mono ?_
          rintro e w1 ⟨rfl, rfl⟩
          rw [G6.out]
          go_wp2_with fail
          refine (tick_nil 1 w).mono ?_
          rintro e w1 ⟨rfl, rfl⟩
          go_wp2_with fail
          refine (take_nil 1 w).mono ?_
          rintro e w1 ⟨rfl, rfl⟩
          go_wp2_with fail
          refine (level_nil w).mono ?_
          rintro e w1 ⟨rfl, rfl⟩
          go_wp2_with fail
          refine (wait_nil 1 w).mono ?_
          rintro e w1 ⟨rfl, rfl⟩
          go_wp2_with fail
          refine (back_any 0 M T own w (by omega) (by omega) (by omega) ho).mono ?_
          rintro e w1 ⟨rfl, rfl⟩
          rw [show backV 0 M T own = 0 by unfold backV; rw [if_pos (by omega)]]
          go_wp2_with fail
          refine (back_any B M 0 own w (by omega) (by omega) (by omega) ho).mono ?_
          rintro e w1 ⟨rfl, rfl⟩
          rw [show backV B M 0 own = 0 by unfold backV; rw [if_pos (by omega)]]
          go_wp2_with fail
          refine (known_any w).mono ?_
          rintro e w1 ⟨rfl, hb1⟩
          go_wp2_with fail
          go_ret
          exact ⟨rfl, hb1⟩
end Go.Proofs.Ytahjimjlialmbaa
