/- The walk of QuorumGone. -/
import Derived.Test.YtpcfeiejfomnoaaQI
namespace Go.Proofs.Ytpcfeiejfomnoaa
open Go.RowKit

theorem compl_any (x i : Nat) (hx : x < 4294967296) (hi : i < 12) : (4294967295 - x).testBit i = nots x.testBit i := by
  rw [show 4294967295 - x = 2 ^ 32 - (x + 1) by omega, Nat.testBit_two_pow_sub_succ (by omega)]
  simp [nots, show i < 32 by omega]
theorem reach_big (q : Qu) (m : Int) (h : 12 < q.n) : reachE q m = 2 := by
  have e : rightE q = 2 := by unfold rightE; rw [if_pos (.inr h)]
  unfold reachE
  rw [if_neg (by omega), e]
theorem reach_zero {q : Qu} {M X : Nat} (hX : X < 4294967296) (h : reachE q M = 0) (hc : cnt q.n.toNat X.testBit ≤ M) : isQ q false (4294967295 - X).testBit = true ∧ isQ q true (4294967295 - X).testBit = true := by
  unfold reachE at h
  split at h
  · rename_i h0
    obtain ⟨n1, n12, hn⟩ := (ok_of h0).n
    rw [if_neg (by omega)] at h
    split at h
    · rename_i hr
      have hcl := cnt_le q.n.toNat X.testBit
      obtain ⟨h1, h2⟩ := gone_less (by omega) hr X.testBit (by omega)
      have e : ∀ i, i < q.n.toNat → (4294967295 - X).testBit i = nots X.testBit i := fun i hi => compl_any X i hX (by omega)
      rw [isQ_congr e, isQ_congr e]
      exact ⟨h1, h2⟩
    · omega
  · rename_i h0
    exact absurd h h0
theorem right_not4 (q : Qu) : ¬ rightE q = 4 := by
  unfold rightE
  split
  · omega
  · split
    · split
      · split <;> omega
      · omega
    · split
      · split <;> omega
      · split
        · split <;> omega
        · omega
theorem reach_four {q : Qu} {M : Nat} (h : reachE q M = 4) : reachE q ((M : Int) + 1) = 4 := by
  unfold reachE at h ⊢
  split at h
  · rename_i h0
    obtain ⟨n1, n12, hn⟩ := (ok_of h0).n
    rw [if_pos h0, if_neg (by omega)]
    rw [if_neg (by omega)] at h
    split at h
    · omega
    · rename_i hr
      rw [if_neg]
      intro h1
      have h2 : reachB q (min (M : Int) q.n).toNat = false := by simpa using hr
      have := gone_more (q := q) (m := (min (M : Int) q.n).toNat) (k := (min ((M : Int) + 1) q.n).toNat) (by omega) (by omega) h2
      rw [this] at h1
      cases h1
  · exact absurd h (right_not4 q)

set_option maxRecDepth 100000 in
set_option maxHeartbeats 8000000 in
theorem gone_law (q : Qu) (s : Value) (more : Int) (X : Nat) (hX : X < 4294967296) (w : World) (hs : Ints w s q.s) :
    Calls Try.prog 8 #[q.v s, .int .i64 more, .int .u32 (X : Int)] w fun e w' => e = .returned (.bool true) ∧ Below w.heap.size w w' := by
  have HM := Lib.hid (many_any q s)
  have HR := Lib.hid (fun m => reach_any q m s)
  have HCa := Lib.hid (fun (Y : Nat) (hY : Y < 4294967296) => can_any q s Y hY)
  have HBig := Lib.hid (reach_big q)
  have HZ := Lib.hid (fun M => reach_zero (q := q) (M := M) hX)
  have HF := Lib.hid (fun M => reach_four (q := q) (M := M))
  obtain ⟨w1, bq, hw1, hbq, B⟩ := Qb.start hs
  obtain ⟨k, n, o, t, l⟩ := q
  have hs0 := hs
  obtain ⟨A, c, rfl, -⟩ := hs0
  simp only [Qu.v] at HM HR HCa HBig HZ HF hw1 ⊢
  have HW := Lib.hid hw1
  have HB := Lib.hid hbq
  have B' := B
  obtain ⟨hfr, hbk, hit⟩ := B'
  simp only at hbk hit
  have b0 := hbk.cell 0 rfl
  have b1 := hbk.cell 1 rfl
  have b2 := hbk.cell 2 rfl
  have b3 := hbk.cell 3 rfl
  have b4 := hbk.cell 4 rfl
  clear hw1 hbq hs hfr hbk
  by_cases hkn : 40 < l.length ∨ more < 0 ∨ 12 < more
  · by_cases hl : 40 < l.length
    · go_enter Try.func8, Try.ntmps8
      go_upto_region 1 with (fail)
      rw [← HW.out, ← HB.out]
      clear HW HB
      go_wp2_with fail
      refine (HM.out w1 hit).mono ?_
      rintro e w2 ⟨rfl, hf⟩
      have B := B.up hf
      clear b0 b1 b2 b3 b4 hf hit
      rw [decide_eq_true hl]
      go_wp2_with fail
      refine (known_any w2).mono ?_
      rintro e w3 ⟨rfl, hf⟩
      go_wp2_with fail
      go_ret
      exact ⟨rfl, (B.up hf).below⟩
    by_cases hm : more < 0
    · clear hkn
      go_enter Try.func8, Try.ntmps8
      go_upto_region 1 with (fail)
      rw [← HW.out, ← HB.out]
      clear HW HB
      go_wp2_with fail
      refine (HM.out w1 hit).mono ?_
      rintro e w2 ⟨rfl, hf⟩
      have B := B.up hf
      clear b0 b1 b2 b3 b4 hf hit
      rw [decide_eq_false hl]
      go_wp2_with fail
      refine (known_any w2).mono ?_
      rintro e w3 ⟨rfl, hf⟩
      go_wp2_with fail
      go_ret
      exact ⟨rfl, (B.up hf).below⟩
    · have hm2 : 12 < more := by omega
      clear hkn
      go_enter Try.func8, Try.ntmps8
      go_upto_region 1 with (fail)
      rw [← HW.out, ← HB.out]
      clear HW HB
      go_wp2_with fail
      refine (HM.out w1 hit).mono ?_
      rintro e w2 ⟨rfl, hf⟩
      have B := B.up hf
      clear b0 b1 b2 b3 b4 hf hit
      rw [decide_eq_false hl]
      go_wp2_with fail
      refine (known_any w2).mono ?_
      rintro e w3 ⟨rfl, hf⟩
      go_wp2_with fail
      go_ret
      exact ⟨rfl, (B.up hf).below⟩
  · have hl : ¬ 40 < l.length := fun h => hkn (.inl h)
    obtain ⟨M, rfl⟩ := Int.eq_ofNat_of_zero_le (show 0 ≤ more from Int.not_lt.1 fun h => hkn (.inr (.inl h)))
    have hM : M ≤ 12 := by
      have : ¬ (12 : Int) < (M : Int) := fun h => hkn (.inr (.inr h))
      omega
    clear hkn
    go_enter Try.func8, Try.ntmps8
    go_upto_region 1 with (fail)
    rw [← HW.out, ← HB.out]
    clear HW HB
    go_wp2_with fail
    refine (HM.out w1 hit).mono ?_
    rintro e w2 ⟨rfl, hf⟩
    have B := B.up hf
    clear b0 b1 b2 b3 b4 hf hit
    rw [decide_eq_false hl]
    have B' := B
    obtain ⟨-, hbk, hit⟩ := B'
    simp only at hbk hit
    have b0 := hbk.cell 0 rfl
    have b1 := hbk.cell 1 rfl
    have b2 := hbk.cell 2 rfl
    have b3 := hbk.cell 3 rfl
    have b4 := hbk.cell 4 rfl
    clear hbk
    go_wp2_with fail
    refine (HR.out _ w2 hit (by omega)).mono ?_
    rintro e w3 ⟨rfl, hf⟩
    have B := B.up hf
    clear b0 b1 b2 b3 b4 hf hit
    have B' := B
    obtain ⟨-, hbk, hit⟩ := B'
    simp only at hbk hit
    have b0 := hbk.cell 0 rfl
    have b1 := hbk.cell 1 rfl
    have b2 := hbk.cell 2 rfl
    have b3 := hbk.cell 3 rfl
    have b4 := hbk.cell 4 rfl
    clear hbk
    by_cases hn : 12 < n
    · rw [HBig.out M hn]
      go_wp2_with fail
      refine (known_any w3).mono ?_
      rintro e w4 ⟨rfl, hf⟩
      clear b0 b1 b2 b3 b4
      go_wp2_with fail
      go_ret
      exact ⟨rfl, (B.up hf).below⟩
    · obtain ⟨E, hE⟩ : ∃ E, E = reachE ⟨k, n, o, t, l⟩ (M : Int) := ⟨_, rfl⟩
      rw [← hE]
      have HE := Lib.hid hE
      clear hE
      go_wp2_with fail
      refine (count_any X n hX (by omega) w3).mono ?_
      rintro e w4 ⟨rfl, rfl⟩
      obtain ⟨C, hC⟩ : ∃ C, C = cnt n.toNat X.testBit := ⟨_, rfl⟩
      rw [← hC]
      have HC := Lib.hid hC
      have hCl : C ≤ 12 := by rw [hC]; have := cnt_le n.toNat X.testBit; omega
      clear hC
      by_cases he0 : E = 0
      · subst he0
        by_cases hcm : C ≤ M
        · obtain ⟨h1, h2⟩ := HZ.out M HE.out.symm (by rw [← HC.out]; exact hcm)
          obtain ⟨V, hV⟩ : ∃ V, V = 4294967295 - X := ⟨_, rfl⟩
          have hx := xor_max X hX
          rw [← hV] at h1 h2 hx
          have hVl : V < 4294967296 := by omega
          have HV := Lib.hid (And.intro h1 h2)
          clear hV h1 h2
          go_wp2_with fail
          refine (HCa.out V hVl _ hit (by omega)).mono ?_
          rintro e w5 ⟨rfl, hf⟩
          rw [HV.out.1, HV.out.2]
          have B := B.up hf
          clear b0 b1 b2 b3 b4 hf hit
          go_wp2_with fail
          refine (known_any w5).mono ?_
          rintro e w6 ⟨rfl, hf⟩
          go_wp2_with fail
          go_ret
          exact ⟨rfl, (B.up hf).below⟩
        · clear hit
          go_wp2_with fail
          refine (known_any _).mono ?_
          rintro e w6 ⟨rfl, hf⟩
          clear b0 b1 b2 b3 b4
          go_wp2_with fail
          go_ret
          exact ⟨rfl, (B.up hf).below⟩
      · have he0' : (E == 0) = false := by simp [he0]
        by_cases he4 : E = 4
        · subst he4
          have h4 := HF.out M HE.out.symm
          have H4 := Lib.hid h4
          clear h4
          go_wp2_with fail
          refine (HR.out _ _ hit (by omega)).mono ?_
          rintro e w5 ⟨rfl, hf⟩
          rw [H4.out]
          have B := B.up hf
          clear b0 b1 b2 b3 b4 hf hit
          go_wp2_with fail
          refine (known_any w5).mono ?_
          rintro e w6 ⟨rfl, hf⟩
          go_wp2_with fail
          go_ret
          exact ⟨rfl, (B.up hf).below⟩
        · have he4' : (E == 4) = false := by simp [he4]
          clear he0 he4 hit
          go_wp2_with fail
          refine (known_any _).mono ?_
          rintro e w6 ⟨rfl, hf⟩
          clear b0 b1 b2 b3 b4
          go_wp2_with fail
          go_ret
          exact ⟨rfl, (B.up hf).below⟩
end Go.Proofs.Ytpcfeiejfomnoaa
