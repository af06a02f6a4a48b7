/- The walks of BucketBound and BucketGrows. -/
import Derived.Test.YtahjimjlialmbaaSeven
namespace Go.Proofs.Ytahjimjlialmbaa
open Go.RowKit

/-- What is held in BucketBound behind so many rounds. -/
structure Meter (w wx : World) (b : Nat) (r s l : Int) (k tk taken : Int) : Prop where
  ok : Ok3 r s l
  x : Bk 46 wx b r s l
  fr : Fr (fun k => w.heap.size ≤ k) w wx
  t0 : 0 ≤ tk
  t1 : tk ≤ k
  g0 : 0 ≤ taken
  g1 : taken + l ≤ s + r * tk
  g2 : taken ≤ 1200 * k

set_option maxRecDepth 100000 in
set_option maxHeartbeats 2000000 in
theorem bound_any (r0 s0 : Int) (a : Option Addr) (len cap : Nat) (zs : List Int) (w : World) (hlen : len ≤ 9223372036854775807) (hz : Nums w a len zs) :
    Calls Try.prog 5 #[.int .i64 r0, .int .i64 s0, .slice a len cap] w fun e w' => e = .returned (.bool true) ∧ Below w.heap.size w w' := by
  go_enter Try.func5, Try.ntmps5
  go_upto_region 1 with (fail)
  go_cut [0] (fun s wx => (∃ A, 0 ≤ A ∧ A < 1000 ∧ s = .int .i64 A) ∧ w = wx)
  case first =>
    go_wp2_with fail
    go_meet
    have := um_bd r0 1000 (by omega) (by omega)
    exact ⟨⟨_, this.1, this.2, rfl⟩, rfl⟩
  case rest =>
    obtain ⟨⟨r, hr0, hr1, rfl⟩, rfl⟩ := hcut
    go_upto_region 2 with (fail)
    go_cut [1] (fun s wx => (∃ A, 1 ≤ A ∧ A ≤ 1000 ∧ s = .int .i64 A) ∧ w = wx)
    case first =>
      obtain ⟨h1, h2⟩ := um_bd s0 1000 (by omega) (by omega)
      go_wp2_with fail
      go_meet
      exact ⟨⟨_, by omega, by omega, rfl⟩, rfl⟩
    case rest =>
      obtain ⟨⟨s, hs0, hs1, rfl⟩, rfl⟩ := hcut
      have ho : Ok3 r s s := by unfold Ok3; omega
      go_wp2_with fail
      refine (new_ok r s w ho w.heap.size (Nat.le_refl _)).mono ?_
      rintro e w1 ⟨b, hB, -, rfl, hb, hf1⟩
      have hS : Meter w w1 b r s s 0 0 0 := ⟨ho, hb, hf1, by omega, by omega, by omega, by omega, by omega⟩
      clear hb hf1 ho
      go_wp2_with fail
      go_loopg [9, 10, 11] len (fun g s9 s10 s11 wr => ∃ (k : Nat) (l tk taken : Int), k + g = len ∧ k ≤ 200 ∧ s11 = .int .i64 k ∧ s10 = .int .i64 tk ∧ s9 = .int .i64 taken ∧ Meter w wr b r s l k tk taken)
      case atStart => exact ⟨0, s, 0, 0, by omega, by omega, rfl, rfl, rfl, hS⟩
      case round =>
        clear hS
        obtain ⟨k, l, tk, taken, hk, hk200, rfl, rfl, rfl, hS⟩ := hrel
        have HK := Lib.hid hk
        have hk' : k ≤ len := by omega
        clear hk
        by_cases hlt : k < len ∧ k < 200
        · obtain ⟨hlt, hlt2⟩ := hlt
          obtain ⟨ab, off, rfl, hab, hc⟩ := hz (by omega)
          obtain ⟨hc, hz1, hz2⟩ := hc k hlt
          obtain ⟨z, hz'⟩ : ∃ z, z = zs.getD k 0 := ⟨_, rfl⟩
          rw [← hz'] at hc hz1 hz2
          clear hz'
          have hc : wr.cell? ⟨ab, off + k, none⟩ = some (.int .i64 z) := by rw [← hc]; exact (hS.fr.below (Nat.le_refl _)).cell hab
          obtain ⟨hok, hx, hfr, t0, t1, g0, g1, g2⟩ := hS
          have hok' := hok
          obtain ⟨o1, o2, o3, o4, o5, o6⟩ := hok'
          obtain ⟨m, hm⟩ : ∃ m, m = r * tk := ⟨_, rfl⟩
          have hm1 : r * (tk + 1) = m + r := by rw [hm, Int.mul_add, Int.mul_one]
          rw [← hm] at g1
          have HM := Lib.hid hm
          have HM1 := Lib.hid hm1
          clear hm hm1
          go_upto_if 50 with (fail)
          go_cut [9, 10, 12, 13, 14] (fun s9 s10 _ _ _ wx => ∃ l tk taken, s10 = .int .i64 tk ∧ s9 = .int .i64 taken ∧ Meter w wx b r s l (k + 1) tk taken)
          case first =>
            by_cases h0 : z < 0
            · go_wp2_with fail
              refine (tick_any b r s l 1 wr hx hok (by omega)).mono ?_
              rintro e w3 ⟨rfl, h3, f3⟩
              go_wp2_with fail
              go_meet
              have e1 : tickL r s l 1 ≤ l + r := by unfold tickL; rw [if_pos (by omega)]; omega
              exact ⟨_, tk + 1, taken, rfl, rfl, ticks_ok hok _, h3, hfr.tr (f3.up hB), by omega, by omega, by omega, by rw [HM1.out]; omega, by omega⟩
            · obtain ⟨n, hn⟩ : ∃ n, n = z % 1200 := ⟨_, rfl⟩
              have hn0 : 0 ≤ n := by omega
              have hn1 : n < 1200 := by omega
              have HN := Lib.hid hn.symm
              clear hn
              by_cases hn2 : n < 1
              · have e1 : takeB l n = false := by unfold takeB; simp; omega
                have e2 : takeL l n = l := by unfold takeL; rw [if_neg (by omega)]
                have E1 := Lib.hid e1
                have E2 := Lib.hid e2
                clear e1 e2
                have hzn := HN.out
                go_wp2_with fail
                refine (level_any b r s l wr hx).mono ?_
                rintro e w3 ⟨rfl, rfl⟩
                go_wp2_with fail
                refine (take_any b r s l _ wr hx hok (by omega)).mono ?_
                rintro e w3 ⟨rfl, h3, f3⟩
                rw [E1.out]
                rw [E2.out] at h3
                go_wp2_with fail
                go_meet
                exact ⟨l, tk, taken, rfl, rfl, hok, h3, hfr.tr (f3.up hB), by omega, by omega, by omega, by rw [← HM.out]; omega, by omega⟩
              by_cases hn3 : l < n
              · have e1 : takeB l n = false := by unfold takeB; simp; omega
                have e2 : takeL l n = l := by unfold takeL; rw [if_neg (by omega)]
                have E1 := Lib.hid e1
                have E2 := Lib.hid e2
                clear e1 e2
                have hzn := HN.out
                go_wp2_with fail
                refine (level_any b r s l wr hx).mono ?_
                rintro e w3 ⟨rfl, rfl⟩
                go_wp2_with fail
                refine (take_any b r s l _ wr hx hok (by omega)).mono ?_
                rintro e w3 ⟨rfl, h3, f3⟩
                rw [E1.out]
                rw [E2.out] at h3
                go_wp2_with fail
                go_meet
                exact ⟨l, tk, taken, rfl, rfl, hok, h3, hfr.tr (f3.up hB), by omega, by omega, by omega, by rw [← HM.out]; omega, by omega⟩
              · have e1 : takeB l n = true := by unfold takeB; simp; omega
                have e2 : takeL l n = l - n := by unfold takeL; rw [if_pos (by omega)]
                have E1 := Lib.hid e1
                have E2 := Lib.hid e2
                clear e1 e2
                have hzn := HN.out
                go_wp2_with fail
                refine (level_any b r s l wr hx).mono ?_
                rintro e w3 ⟨rfl, rfl⟩
                go_wp2_with fail
                refine (take_any b r s l _ wr hx hok (by omega)).mono ?_
                rintro e w3 ⟨rfl, h3, f3⟩
                rw [E1.out]
                rw [E2.out] at h3
                go_wp2_with fail
                go_meet
                exact ⟨l - n, tk, taken + n, rfl, rfl, by unfold Ok3; omega, h3, hfr.tr (f3.up hB), by omega, by omega, by omega, by rw [← HM.out]; omega, by omega⟩
          case rest =>
            clear hx hfr hok t0 t1 g0 g1 g2 HM HM1 hc o1 o2 o3 o4 o5 o6
            obtain ⟨l, tk, taken, rfl, rfl, hS⟩ := hcut
            have hS' := hS
            obtain ⟨hok, hx, hfr, t0, t1, g0, g1, g2⟩ := hS'
            obtain ⟨o1, o2, o3, o4, o5, o6⟩ := hok
            obtain ⟨m, hm⟩ : ∃ m, m = r * tk := ⟨_, rfl⟩
            rw [← hm] at g1
            have hm0 : 0 ≤ m := by rw [hm]; exact Int.mul_nonneg (by omega) (by omega)
            have hm1 : m ≤ 1000 * 1000 := by rw [hm]; exact Int.mul_le_mul (by omega) (by omega) (by omega) (by omega)
            replace hm := hm.symm
            go_wp2_with fail
            refine (level_any b r s l wc hx).mono ?_
            rintro e w3 ⟨rfl, rfl⟩
            go_wp2_with fail
            refine (level_any b r s l wc hx).mono ?_
            rintro e w3 ⟨rfl, rfl⟩
            go_wp2_with fail
            go_roundg (len - (k + 1))
            case measure => have := HK.out; omega
            case rel => exact ⟨k + 1, l, tk, taken, by omega, by omega, by go_num, rfl, rfl, by rw [Int.natCast_add, Int.natCast_one]; exact hS⟩
        · go_wp2_with fail
          all_goals
            refine (known_any wr).mono ?_
            rintro e w3 ⟨rfl, hb3⟩
            go_wp2_with fail
            go_ret
            exact ⟨rfl, (hS.fr.below (Nat.le_refl _)).trans (hb3.mono hS.fr.size)⟩

end Go.Proofs.Ytahjimjlialmbaa
