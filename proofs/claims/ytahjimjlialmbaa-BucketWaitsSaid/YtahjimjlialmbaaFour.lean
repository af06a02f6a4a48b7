/- Back of both. -/
import Derived.Test.YtahjimjlialmbaaThree
import Derived.Deep.DeepCutAuto
import Derived.Deep.CutBlock
namespace Go.Proofs.Ytahjimjlialmbaa
open Go.RowKit

theorem add64 (x y : Int) (hx : 0 ≤ x) (hy : 0 ≤ y) (hc : x + y < 18446744073709551616) (w : World) :
    (callFunc 22 #[.int .u64 x, .int .u64 y, .int .u64 0]).run Try.prog w = .ok (.value (.tuple #[.int .u64 (x + y), .int .u64 0])) w := by
  rw [run_callFunc_extern Try.func22 (by kernel_rfl) (by kernel_rfl) (by kernel_rfl) (e := add64Entry) (by kernel_rfl), run_add64 x y 0 hx hy (by omega) (by omega)]
  have e1 : (x + y + 0) % 18446744073709551616 = x + y := by omega
  have e2 : (x + y + 0) / 18446744073709551616 = 0 := by omega
  rw [e1, e2]; rfl

set_option maxHeartbeats 800000 in
theorem back_loop (base most tries own : Int) (w : World) (hb : 1 ≤ base) (hb' : base ≤ 9223372036854775807) (hm : -9223372036854775808 ≤ most ∧ most ≤ 9223372036854775807) (ht : 1 ≤ tries) (ht' : tries ≤ 9223372036854775807)
    (ho : 0 ≤ own ∧ own < 18446744073709551616) :
    Calls Try.prog 19 #[.int .i64 base, .int .i64 most, .int .i64 tries, .int .u64 own] w fun e w' =>
      e = .returned (.int .i64 (backW base most tries / 2 + backW base most tries % 2 + own % (backW base most tries - (backW base most tries / 2 + backW base most tries % 2) + 1))) ∧ w = w' := by
  obtain ⟨hb1, hb2, hb3⟩ := top0_bd base most hb
  obtain ⟨hm1, hm2⟩ := hm
  obtain ⟨ho1, ho2⟩ := ho
  go_enter Try.func19, Try.ntmps19
  go_upto_region 3 with (fail)
  go_cut [9] (fun s wx => s = .int .u64 (base0 base) ∧ w = wx)
  case first =>
    go_wp2_with (fail)
    all_goals (go_meet; exact ⟨by congr 1; unfold base0 last; omega, rfl⟩)
  case rest =>
    obtain ⟨rfl, rfl⟩ := hcut
    go_upto_region 4 with (fail)
    go_cut [10] (fun s wx => s = .int .u64 (top0 base most) ∧ w = wx)
    case first =>
      go_wp2_with (fail)
      all_goals (go_meet; exact ⟨by congr 1; unfold top0 base0 last at *; omega, rfl⟩)
    case rest =>
      obtain ⟨rfl, rfl⟩ := hcut
      go_upto_block 0 with (fail)
      go_cut [9] (fun s wx => s = .int .u64 (backW base most tries) ∧ w = wx)
      case first =>
        go_wp2_with (fail)
        go_loopw [9, 30] (fun s k wr => ∃ i : Nat, (i : Int) ≤ tries - 1 ∧ k = .int .i64 i ∧ s = .int .u64 (dbl (top0 base most) i (base0 base)) ∧ w = wr) (fun _ k _ => (tries - 1 - intOf k).toNat)
        case atStart => exact ⟨0, by omega, rfl, rfl, rfl⟩
        case round =>
          obtain ⟨i, hi, rfl, rfl, rfl⟩ := hrel
          obtain ⟨hd1, hd2⟩ := dbl_bd (top0 base most) (base0 base) hb1 hb2 i
          by_cases hlt : (i : Int) < tries - 1
          · by_cases hge : top0 base most ≤ dbl (top0 base most) i (base0 base)
            · have e : Hid (dbl (top0 base most) i (base0 base) = backW base most tries) := by
                unfold backW
                rw [dbl_top _ _ hb1 hb2 i (by omega) (tries - 1).toNat (by omega)]; exact Int.le_antisymm hd2 hge
              go_wp2_with (fail)
              go_meet
              exact ⟨by rw [e.out], rfl⟩
            · have e : Hid (dbl (top0 base most) (i + 1) (base0 base) = min (2 * dbl (top0 base most) i (base0 base)) (top0 base most)) := rfl
              go_wp2_with (fail)
              all_goals
                go_roundw
                case rel => exact ⟨i + 1, by omega, by go_num, by rw [e.out]; congr 1; omega, (by first | rfl | trivial)⟩
                case measure => simp [intOf]; omega
          · have e : Hid (dbl (top0 base most) i (base0 base) = backW base most tries) := by
              unfold backW
              rw [show (tries - 1).toNat = i by omega]; rfl
            go_wp2_with (fail)
            go_meet
            exact ⟨by rw [e.out], rfl⟩
      case rest =>
        obtain ⟨rfl, rfl⟩ := hcut
        obtain ⟨hd1, hd2⟩ : base0 base ≤ backW base most tries ∧ backW base most tries ≤ top0 base most := dbl_bd (top0 base most) (base0 base) hb1 hb2 _
        have hq : 0 ≤ own % (backW base most tries - (backW base most tries / 2 + backW base most tries % 2) + 1) := Int.emod_nonneg _ (by omega)
        have hq2 : own % (backW base most tries - (backW base most tries / 2 + backW base most tries % 2) + 1) < (backW base most tries - (backW base most tries / 2 + backW base most tries % 2) + 1) := Int.emod_lt_of_pos _ (by omega)
        go_wp2_with (simp only [add64 (backW base most tries / 2) (backW base most tries % 2) (by omega) (by omega) (by omega)])
        go_ret
        exact ⟨rfl, rfl⟩

set_option maxHeartbeats 800000 in
theorem rback_loop (base most tries own : Int) (w : World) (hb : 1 ≤ base) (hb' : base ≤ 9223372036854775807) (hm : -9223372036854775808 ≤ most ∧ most ≤ 9223372036854775807) (ht : 1 ≤ tries) (ht' : tries ≤ 9223372036854775807)
    (ho : 0 ≤ own ∧ own < 18446744073709551616) :
    Calls Try.prog 20 #[.int .i64 base, .int .i64 most, .int .i64 tries, .int .u64 own] w fun e w' =>
      e = .returned (.int .i64 (backW base most tries / 2 + backW base most tries % 2 + own % (backW base most tries - (backW base most tries / 2 + backW base most tries % 2) + 1))) ∧ w = w' := by
  obtain ⟨hb1, hb2, hb3⟩ := top0_bd base most hb
  obtain ⟨hm1, hm2⟩ := hm
  obtain ⟨ho1, ho2⟩ := ho
  go_enter Try.func20, Try.ntmps20
  go_upto_if 19 with (fail)
  go_cut [0] (fun s wx => s = .int .i64 (base0 base) ∧ w = wx)
  case first =>
    go_wp2_with (fail)
    all_goals (go_meet; exact ⟨by congr 1; unfold base0 last; omega, rfl⟩)
  case rest =>
    obtain ⟨rfl, rfl⟩ := hcut
    go_upto_if 22 with (fail)
    go_cut [1] (fun s wx => s = .int .i64 (max most (base0 base)) ∧ w = wx)
    case first =>
      go_wp2_with (fail)
      all_goals (go_meet; exact ⟨by congr 1; omega, rfl⟩)
    case rest =>
      obtain ⟨rfl, rfl⟩ := hcut
      go_upto_if 25 with (fail)
      go_cut [1] (fun s wx => s = .int .i64 (top0 base most) ∧ w = wx)
      case first =>
        go_wp2_with (fail)
        all_goals (go_meet; exact ⟨by congr 1; unfold top0 last; omega, rfl⟩)
      case rest =>
        obtain ⟨rfl, rfl⟩ := hcut
        go_upto_block 0 with (fail)
        go_cut [9] (fun s wx => s = .int .i64 (backW base most tries) ∧ w = wx)
        case first =>
          go_wp2_with (fail)
          go_loopw [9, 10] (fun s k wr => ∃ i : Nat, (i : Int) ≤ tries - 1 ∧ k = .int .i64 (i + 1) ∧ s = .int .i64 (dbl (top0 base most) i (base0 base)) ∧ w = wr) (fun _ k _ => (tries - intOf k).toNat)
          case atStart => exact ⟨0, by omega, rfl, rfl, rfl⟩
          case round =>
            obtain ⟨i, hi, rfl, rfl, rfl⟩ := hrel
            obtain ⟨hd1, hd2⟩ := dbl_bd (top0 base most) (base0 base) hb1 hb2 i
            by_cases hlt : (i : Int) + 1 < tries
            · by_cases hge : dbl (top0 base most) i (base0 base) < top0 base most
              · have e : Hid (dbl (top0 base most) (i + 1) (base0 base) = min (2 * dbl (top0 base most) i (base0 base)) (top0 base most)) := rfl
                go_wp2_with (fail)
                all_goals
                  go_roundw
                  case rel => exact ⟨i + 1, by omega, by go_num, by rw [e.out]; congr 1; omega, (by first | rfl | trivial)⟩
                  case measure => simp [intOf]; omega
              · have e : Hid (dbl (top0 base most) i (base0 base) = backW base most tries) := by
                  unfold backW
                  rw [dbl_top _ _ hb1 hb2 i (Int.le_antisymm hd2 (Int.not_lt.1 hge)) (tries - 1).toNat (by omega)]; exact Int.le_antisymm hd2 (Int.not_lt.1 hge)
                go_wp2_with (fail)
                go_meet
                exact ⟨by rw [e.out], rfl⟩
            · have e : Hid (dbl (top0 base most) i (base0 base) = backW base most tries) := by
                unfold backW
                rw [show (tries - 1).toNat = i by omega]; rfl
              go_wp2_with (fail)
              go_meet
              exact ⟨by rw [e.out], rfl⟩
        case rest =>
          obtain ⟨rfl, rfl⟩ := hcut
          obtain ⟨hd1, hd2⟩ : base0 base ≤ backW base most tries ∧ backW base most tries ≤ top0 base most := dbl_bd (top0 base most) (base0 base) hb1 hb2 _
          by_cases h2 : backW base most tries % 2 = 1
          · have hq : 0 ≤ own % (backW base most tries - (backW base most tries / 2 + 1) + 1) := Int.emod_nonneg _ (by omega)
            have hq2 : own % (backW base most tries - (backW base most tries / 2 + 1) + 1) < (backW base most tries - (backW base most tries / 2 + 1) + 1) := Int.emod_lt_of_pos _ (by omega)
            have H2 := Lib.hid h2
            have h3 : (backW base most tries % 2 == 1) = true := by simpa using h2
            clear h2
            go_wp2_with (fail)
            go_ret
            exact ⟨by rw [H2.out]; rfl, rfl⟩
          · have hq : 0 ≤ own % (backW base most tries - backW base most tries / 2 + 1) := Int.emod_nonneg _ (by omega)
            have hq2 : own % (backW base most tries - backW base most tries / 2 + 1) < (backW base most tries - backW base most tries / 2 + 1) := Int.emod_lt_of_pos _ (by omega)
            have H2 : Hid (backW base most tries % 2 = 0) := Lib.hid (show backW base most tries % 2 = 0 by omega)
            have h3 : (backW base most tries % 2 == 1) = false := by simpa using h2
            clear h2
            go_wp2_with (fail)
            go_ret
            exact ⟨by rw [H2.out]; simp, rfl⟩
theorem back_any (base most tries own : Int) (w : World) (hb' : -9223372036854775808 ≤ base ∧ base ≤ 9223372036854775807) (hm : -9223372036854775808 ≤ most ∧ most ≤ 9223372036854775807) (ht' : -9223372036854775808 ≤ tries ∧ tries ≤ 9223372036854775807)
    (ho : 0 ≤ own ∧ own < 18446744073709551616) :
    Calls Try.prog 19 #[.int .i64 base, .int .i64 most, .int .i64 tries, .int .u64 own] w fun e w' => e = .returned (.int .i64 (backV base most tries own)) ∧ w = w' := by
  by_cases h1 : base < 1
  · rw [show backV base most tries own = 0 by unfold backV; rw [if_pos (.inl h1)]]
    go_enter Try.func19, Try.ntmps19
    go_wp2
    go_ret
    exact ⟨rfl, rfl⟩
  by_cases h2 : tries < 1
  · rw [show backV base most tries own = 0 by unfold backV; rw [if_pos (.inr h2)]]
    go_enter Try.func19, Try.ntmps19
    go_wp2
    go_ret
    exact ⟨rfl, rfl⟩
  · have := back_loop base most tries own w (by omega) hb'.2 hm (by omega) ht'.2 ho
    unfold backV
    rw [if_neg (by omega)]
    exact this
theorem rback_any (base most tries own : Int) (w : World) (hb' : -9223372036854775808 ≤ base ∧ base ≤ 9223372036854775807) (hm : -9223372036854775808 ≤ most ∧ most ≤ 9223372036854775807) (ht' : -9223372036854775808 ≤ tries ∧ tries ≤ 9223372036854775807)
    (ho : 0 ≤ own ∧ own < 18446744073709551616) :
    Calls Try.prog 20 #[.int .i64 base, .int .i64 most, .int .i64 tries, .int .u64 own] w fun e w' => e = .returned (.int .i64 (backV base most tries own)) ∧ w = w' := by
  by_cases h1 : base < 1
  · rw [show backV base most tries own = 0 by unfold backV; rw [if_pos (.inl h1)]]
    go_enter Try.func20, Try.ntmps20
    go_wp2
    go_ret
    exact ⟨rfl, rfl⟩
  by_cases h2 : tries < 1
  · rw [show backV base most tries own = 0 by unfold backV; rw [if_pos (.inr h2)]]
    go_enter Try.func20, Try.ntmps20
    go_wp2
    go_ret
    exact ⟨rfl, rfl⟩
  · have := rback_loop base most tries own w (by omega) hb'.2 hm (by omega) ht'.2 ho
    unfold backV
    rw [if_neg (by omega)]
    exact this
end Go.Proofs.Ytahjimjlialmbaa
