/- The walk of BucketWaits. -/
import Derived.Test.YtahjimjlialmbaaSeven
namespace Go.Proofs.Ytahjimjlialmbaa
open Go.RowKit

set_option maxRecDepth 100000 in
set_option maxHeartbeats 2000000 in
theorem waits_any (r0 s0 first n : Int) (w : World) (ht : i64 first) (hn : i64 n) :
    Calls Try.prog 6 #[.int .i64 r0, .int .i64 s0, .int .i64 first, .int .i64 n] w fun e w' => e = .returned (.bool true) ∧ Below w.heap.size w w' := by
  obtain ⟨ht1, ht2⟩ := ht
  obtain ⟨hn1, hn2⟩ := hn
  go_enter Try.func6, Try.ntmps6
  go_upto_region 1 with (fail)
  go_cut [0] (fun s wx => (∃ A, 0 ≤ A ∧ A < 200 ∧ s = .int .i64 A) ∧ w = wx)
  case first =>
    go_wp2_with fail
    go_meet
    have := um_bd r0 200 (by omega) (by omega)
    exact ⟨⟨_, this.1, this.2, rfl⟩, rfl⟩
  case rest =>
    obtain ⟨⟨r, hr0, hr1, rfl⟩, rfl⟩ := hcut
    go_upto_region 2 with (fail)
    go_cut [1] (fun s wx => (∃ A, 1 ≤ A ∧ A ≤ 2000 ∧ s = .int .i64 A) ∧ w = wx)
    case first =>
      obtain ⟨h1, h2⟩ := um_bd s0 2000 (by omega) (by omega)
      go_wp2_with fail
      go_meet
      exact ⟨⟨_, by omega, by omega, rfl⟩, rfl⟩
    case rest =>
      obtain ⟨⟨s, hs0, hs1, rfl⟩, rfl⟩ := hcut
      have ho : Ok3 r s s := by unfold Ok3; omega
      have hO := Lib.hid ho
      go_wp2_with fail
      refine (new_ok r s w ho w.heap.size (Nat.le_refl _)).mono ?_
      rintro e w1 ⟨b, hB, -, rfl, hb, hf1⟩
      have hbl := hb.lt
      go_wp2_with fail
      refine (new_ok r s w1 ho w1.heap.size (Nat.le_refl _)).mono ?_
      rintro e w2 ⟨m, hM, hms, rfl, hm, hf2⟩
      have hs1 := hf1.size
      have hne : b ≠ m := by omega
      have hM' : w.heap.size ≤ m := by omega
      replace hb := hb.fr hf2 (by omega)
      replace hf2 := hf1.tr (hf2.mono (Z := fun k => w.heap.size ≤ k) fun _ _ h => by omega)
      clear hf1 hs1 hbl hms hM
      go_wp2_with fail
      refine (take_any b r s s first w2 hb ho ⟨ht1, ht2⟩).mono ?_
      rintro e w3 ⟨rfl, hb3, f3⟩
      replace hm := hm.fr f3 (Ne.symm hne)
      go_wp2_with fail
      refine (take_any m r s s first w3 hm ho ⟨ht1, ht2⟩).mono ?_
      rintro e w4 ⟨rfl, hm4, f4⟩
      replace hb3 := hb3.fr f4 hne
      have hF := ((hf2.tr (f3.up hB)).tr (f4.up hM'))
      clear hf2 f3 f4 hb hm
      obtain ⟨l, hl⟩ : ∃ l, l = takeL s first := ⟨_, rfl⟩
      rw [← hl] at hb3 hm4
      have hk : Ok3 r s l := by rw [hl]; exact takes_ok ho _
      clear hl ho
      obtain ⟨q1, q2, q3, q4, q5⟩ := wait_law (n := n) hk
      obtain ⟨v, hv⟩ : ∃ v, v = waitV r s l n := ⟨_, rfl⟩
      have HV := Lib.hid hv
      rw [← hv] at q1 q2 q3 q4 q5
      clear hv
      go_wp2_with fail
      refine (wait_any b r s l n w4 hb3 hk ⟨hn1, hn2⟩).mono ?_
      rintro e w5 ⟨rfl, q, rfl⟩
      rw [← HV.out]
      clear HV
      replace hb3 := hb3.drewN q
      replace hm4 := hm4.drewN q
      replace hF := hF.drewN q
      obtain ⟨wd, hwd⟩ : ∃ wd, wd = w4.drewN q := ⟨_, rfl⟩
      rw [← hwd] at hb3 hm4 hF ⊢
      clear hwd
      by_cases hneg : v < 0
      · obtain ⟨rfl, p2, p3⟩ := q1 hneg
        have P3 := Lib.hid p3
        clear q1 q2 q3 p3 q4 q5 hneg
        go_wp2_with fail
        refine (tick_any b r s l 100000 wd hb3 hk (by omega)).mono ?_
        rintro e w6 ⟨rfl, hb6, f6⟩
        have hk6 := ticks_ok hk 100000
        rcases p2 with p2 | p2 | p2
        · go_wp2_with fail
          refine (take_any b r s _ n w6 hb6 hk6 ⟨hn1, hn2⟩).mono ?_
          rintro e w7 ⟨rfl, hb7, f7⟩
          rw [P3.out]
          go_wp2_with fail
          refine (known_any w7).mono ?_
          rintro e wy ⟨rfl, hby⟩
          go_wp2_with fail
          go_ret
          have hG := ((hF.tr (f6.up hB)).tr (f7.up hB))
          exact ⟨rfl, (hG.below (Nat.le_refl _)).trans (hby.mono hG.size)⟩
        · go_wp2_with fail
          all_goals
            refine (take_any b r s _ n w6 hb6 hk6 ⟨hn1, hn2⟩).mono ?_
            rintro e w7 ⟨rfl, hb7, f7⟩
            rw [P3.out]
            go_wp2_with fail
            refine (known_any w7).mono ?_
            rintro e wy ⟨rfl, hby⟩
            go_wp2_with fail
            go_ret
            have hG := ((hF.tr (f6.up hB)).tr (f7.up hB))
            exact ⟨rfl, (hG.below (Nat.le_refl _)).trans (hby.mono hG.size)⟩
        · subst p2
          go_wp2_with fail
          all_goals
            refine (take_any b 0 s _ n w6 hb6 hk6 ⟨hn1, hn2⟩).mono ?_
            rintro e w7 ⟨rfl, hb7, f7⟩
            rw [P3.out]
            go_wp2_with fail
            refine (known_any w7).mono ?_
            rintro e wy ⟨rfl, hby⟩
            go_wp2_with fail
            go_ret
            have hG := ((hF.tr (f6.up hB)).tr (f7.up hB))
            exact ⟨rfl, (hG.below (Nat.le_refl _)).trans (hby.mono hG.size)⟩
      · have Q3 := Lib.hid (q3 (by omega))
        by_cases hpos : 0 < v
        · have Q2 := Lib.hid (q2 hpos)
          clear q1 q2 q3
          go_wp2_with fail
          refine (tick_any m r s l (v - 1) wd hm4 hk (by omega)).mono ?_
          rintro e w6 ⟨rfl, hm6, f6⟩
          replace hb3 := hb3.fr f6 hne
          go_wp2_with fail
          refine (take_any m r s _ n w6 hm6 (ticks_ok hk _) ⟨hn1, hn2⟩).mono ?_
          rintro e w7 ⟨rfl, hm7, f7⟩
          replace hb3 := hb3.fr f7 hne
          rw [Q2.out]
          go_wp2_with fail
          refine (tick_any b r s l v w7 hb3 hk (by omega)).mono ?_
          rintro e w8 ⟨rfl, hb8, f8⟩
          go_wp2_with fail
          refine (take_any b r s _ n w8 hb8 (ticks_ok hk _) ⟨hn1, hn2⟩).mono ?_
          rintro e w9 ⟨rfl, hb9, f9⟩
          rw [Q3.out]
          go_wp2_with fail
          refine (known_any w9).mono ?_
          rintro e wy ⟨rfl, hby⟩
          go_wp2_with fail
          go_ret
          have hG := ((((hF.tr (f6.up hM')).tr (f7.up hM')).tr (f8.up hB)).tr (f9.up hB))
          exact ⟨rfl, (hG.below (Nat.le_refl _)).trans (hby.mono hG.size)⟩
        · clear q1 q2 q3
          go_wp2_with fail
          refine (tick_any b r s l v wd hb3 hk (by omega)).mono ?_
          rintro e w8 ⟨rfl, hb8, f8⟩
          go_wp2_with fail
          refine (take_any b r s _ n w8 hb8 (ticks_ok hk _) ⟨hn1, hn2⟩).mono ?_
          rintro e w9 ⟨rfl, hb9, f9⟩
          rw [Q3.out]
          go_wp2_with fail
          refine (known_any w9).mono ?_
          rintro e wy ⟨rfl, hby⟩
          go_wp2_with fail
          go_ret
          have hG := ((hF.tr (f8.up hB)).tr (f9.up hB))
          exact ⟨rfl, (hG.below (Nat.le_refl _)).trans (hby.mono hG.size)⟩
end Go.Proofs.Ytahjimjlialmbaa
