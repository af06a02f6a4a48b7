/- The document's Right, group. -/
import Derived.Test.YtliljjlegofmkaaQI
namespace Go.Proofs.Ytliljjlegofmkaa
open Go.RowKit

set_option maxRecDepth 100000 in
set_option maxHeartbeats 4000000 in
theorem rright_any (q : Qu) (s : Value) (w : World) (hs : Ints w s q.s) (hl : q.s.length ≤ 1000) :
    Calls Try.prog 10 #[q.v s] w fun e w' => e = .returned (.int .i64 (rightE q)) ∧ Fr (fun _ => False) w w' := by
  obtain ⟨w1, bq, hw1, hbq, hfr, hbk, hit⟩ : ∃ w1 b, w1 = w.alloc (.cells #[.int .i64 q.k, .int .i64 q.n, .int .i64 q.o, .int .i64 q.t, s] 24) ∧ b = w.heap.size ∧ Fr (fun _ => False) w w1 ∧ Blk w1 b 24 #[.int .i64 q.k, .int .i64 q.n, .int .i64 q.o, .int .i64 q.t, s] ∧ Ints w1 s q.s :=
    ⟨_, _, rfl, rfl, (Fr.refl _ w).alloc _, Blk.new _ _ _, hs.up ((Fr.refl _ w).alloc _)⟩
  obtain ⟨k, n, o, t, l⟩ := q
  have hs0 := hs
  obtain ⟨A, c, rfl, -⟩ := hs0
  have HW := Lib.hid hw1
  have HB := Lib.hid hbq
  have HI := Lib.hid hit
  have HF := Lib.hid hfr
  simp only [Qu.v] at hl hbk ⊢
  have b0 := hbk.cell 0 rfl
  have b1 := hbk.cell 1 rfl
  have b2 := hbk.cell 2 rfl
  have b3 := hbk.cell 3 rfl
  have b4 := hbk.cell 4 rfl
  clear hw1 hbq hit hfr hs hbk
  by_cases hn : n < 1 ∨ 12 < n
  · have e0 : rightE ⟨k, n, o, t, l⟩ = 2 := by unfold rightE; rw [if_pos hn]
    rw [e0]
    clear e0
    have hd : k < 1 ∨ 3 < k ∨ (1 ≤ k ∧ k ≤ 3 ∧ n < 1) ∨ (1 ≤ k ∧ k ≤ 3 ∧ 12 < n) := by omega
    clear hn
    rcases hd with c1 | c1 | ⟨c1, c2, c3⟩ | ⟨c1, c2, c3⟩
    all_goals
      go_enter Try.func10, Try.ntmps10
      go_upto_region 1 with (fail)
      rw [← HW.out, ← HB.out]
      clear HW HB
      go_wp2_with fail
      go_ret
      exact ⟨rfl, HF.out⟩
  have hn1 : 1 ≤ n := by omega
  have hn2 : n ≤ 12 := by omega
  have hn' : ¬ (n < 1 ∨ 12 < n) := hn
  clear hn
  by_cases hk : k < 1 ∨ 3 < k
  · have e0 : rightE ⟨k, n, o, t, l⟩ = 2 := by unfold rightE; rw [if_neg hn', if_neg (by simp only; omega), if_neg (by simp only; omega), if_neg (by simp only; omega)]
    rw [e0]
    clear e0 hn'
    rcases hk with c1 | c1
    all_goals
      go_enter Try.func10, Try.ntmps10
      go_upto_region 1 with (fail)
      rw [← HW.out, ← HB.out]
      clear HW HB
      go_wp2_with fail
      go_ret
      exact ⟨rfl, HF.out⟩
  by_cases k3 : k = 3
  · subst k3
    clear hk
    by_cases hln : (l.length : Int) = n
    · obtain ⟨E, hE⟩ : ∃ E, E = rightE ⟨3, n, o, t, l⟩ := ⟨_, rfl⟩
      have e0 : rightE ⟨3, n, o, t, l⟩ = if l.any badS = true then 2 else 0 := by
        unfold rightE
        rw [if_neg hn', if_neg (by simp), if_neg (by simp), if_pos rfl]
        cases l.any badS <;> simp [hln]
      rw [← hE]
      rw [← hE] at e0
      have HE := Lib.hid e0
      subst hln
      clear hE e0 hn'
      go_enter Try.func10, Try.ntmps10
      go_upto_region 1 with (fail)
      rw [← HW.out, ← HB.out]
      clear HW HB
      go_wp2_with fail
      go_loopg [3] l.length (fun g x3 wr => ∃ (j : Nat), j + g = l.length ∧ x3 = .int .i64 j ∧ (l.take j).any badS = false ∧ w1 = wr)
      case atStart => exact ⟨0, by omega, rfl, by simp, rfl⟩
      case round =>
        obtain ⟨j, hj, rfl, hany, hww⟩ := hrel
        have HJ := Lib.hid (And.intro hj hany)
        have hj' : j ≤ l.length := by omega
        clear hj hany
        subst hww
        by_cases hlt : j < l.length
        · obtain ⟨z, hz⟩ : ∃ z, l[j]? = some z := ⟨_, List.getElem?_eq_getElem hlt⟩
          obtain ⟨A', c', hA, h2⟩ := HI.out
          obtain ⟨b, off, rfl, h3⟩ := h2 (by rintro rfl; simp at hlt)
          injection hA with hA1 _ hA3
          subst hA1 hA3
          have q0 := h3 j z hz
          have ht : (l.take (j + 1)).any badS = badS z := by
            rw [List.take_add_one, hz, List.any_append, HJ.out.2]; simp
          have hm : badS z = true → l.any badS = true := fun h => by rw [List.any_eq_true]; exact ⟨z, List.mem_of_getElem? hz, h⟩
          have HT := Lib.hid (And.intro ht hm)
          clear ht hm hz h2 h3
          by_cases z0 : z < 0
          · go_wp2_with fail
            go_ret
            refine ⟨?_, HF.out⟩
            rw [HE.out, HT.out.2 (by simp [badS, z0])]
            rfl
          · by_cases z1 : 11 < z
            · go_wp2_with fail
              go_ret
              refine ⟨?_, HF.out⟩
              rw [HE.out, HT.out.2 (by simp [badS]; omega)]
              rfl
            · go_wp2_with fail
              go_roundg (l.length - (j + 1))
              case measure => have := HJ.out; omega
              case rel => exact ⟨j + 1, by have := HJ.out; omega, by go_num, by rw [HT.out.1]; simp [badS]; omega, rfl⟩
        · obtain rfl : j = l.length := by omega
          have h3 := HJ.out.2
          rw [List.take_length] at h3
          have H3 := Lib.hid h3
          clear h3
          go_wp2_with fail
          go_ret
          refine ⟨?_, HF.out⟩
          rw [HE.out, H3.out]
          rfl
    · have hln' : ((l.length : Int) == n) = false := by simp [hln]
      have hln2 : ((l.length : Int) != n) = true := by unfold bne; rw [hln']; rfl
      have e0 : rightE ⟨3, n, o, t, l⟩ = 2 := by unfold rightE; rw [if_neg hn', if_neg (by simp), if_neg (by simp), if_pos rfl]; simp [hln]
      rw [e0]
      clear e0 hn' hln
      go_enter Try.func10, Try.ntmps10
      go_upto_region 1 with (fail)
      rw [← HW.out, ← HB.out]
      clear HW HB
      go_wp2_with fail
      go_ret
      exact ⟨rfl, HF.out⟩
  have hk12 : k = 1 ∨ k = 2 := by omega
  clear hk k3
  by_cases hc : 1 ≤ o ∧ o ≤ n ∧ 1 ≤ t ∧ t ≤ n
  · have hcc : cts ⟨k, n, o, t, l⟩ = true := by simp [cts, hc]
    obtain ⟨c1, c2, c3, c4⟩ := hc
    rcases hk12 with rfl | rfl
    · by_cases hm : o + t ≤ n
      · have e0 : rightE ⟨1, n, o, t, l⟩ = 80 := by unfold rightE; rw [if_neg hn', if_pos rfl, hcc, if_pos rfl, if_pos hm]
        rw [e0]
        clear e0 hcc hn'
        go_enter Try.func10, Try.ntmps10
        go_upto_region 1 with (fail)
        rw [← HW.out, ← HB.out]
        clear HW HB
        go_wp2_with fail
        go_ret
        exact ⟨rfl, HF.out⟩
      · have e0 : rightE ⟨1, n, o, t, l⟩ = 0 := by unfold rightE; rw [if_neg hn', if_pos rfl, hcc, if_pos rfl, if_neg hm]
        rw [e0]
        clear e0 hcc hn'
        go_enter Try.func10, Try.ntmps10
        go_upto_region 1 with (fail)
        rw [← HW.out, ← HB.out]
        clear HW HB
        go_wp2_with fail
        go_ret
        exact ⟨rfl, HF.out⟩
    · have hm0 : o * t ≤ 144 := Int.le_trans (Int.mul_le_mul (show o ≤ 12 by omega) (show t ≤ 12 by omega) (by omega) (by omega)) (by omega)
      have hm1 : 0 ≤ o * t := Int.mul_nonneg (by omega) (by omega)
      have hm2 : IntKind.i64.wrap (o * t) = o * t := IntWalk.i64_in _ (by omega)
      by_cases hm : o * t = n
      · have e0 : rightE ⟨2, n, o, t, l⟩ = 0 := by unfold rightE; rw [if_neg hn', if_neg (by simp), if_pos rfl, hcc]; simp [hm]
        have hm' : (o * t == n) = true := by simp [hm]
        have hm3 : (o * t != n) = false := by unfold bne; rw [hm']; rfl
        rw [e0]
        clear e0 hcc hm hn'
        go_enter Try.func10, Try.ntmps10
        go_upto_region 1 with (fail)
        rw [← HW.out, ← HB.out]
        clear HW HB
        go_wp2_with fail
        go_ret
        exact ⟨rfl, HF.out⟩
      · have e0 : rightE ⟨2, n, o, t, l⟩ = 2 := by unfold rightE; rw [if_neg hn', if_neg (by simp), if_pos rfl, hcc]; simp [hm]
        have hm' : (o * t == n) = false := by simp [hm]
        have hm3 : (o * t != n) = true := by unfold bne; rw [hm']; rfl
        rw [e0]
        clear e0 hcc hm hn'
        go_enter Try.func10, Try.ntmps10
        go_upto_region 1 with (fail)
        rw [← HW.out, ← HB.out]
        clear HW HB
        go_wp2_with fail
        go_ret
        exact ⟨rfl, HF.out⟩
  · have hcc : cts ⟨k, n, o, t, l⟩ = false := by simp only [cts, decide_eq_false_iff_not]; exact hc
    have e0 : rightE ⟨k, n, o, t, l⟩ = 2 := by
      unfold rightE
      rw [if_neg hn', hcc]
      rcases hk12 with rfl | rfl <;> simp
    rw [e0]
    clear e0 hcc hn'
    have hd : o < 1 ∨ (1 ≤ o ∧ n < o) ∨ (1 ≤ o ∧ o ≤ n ∧ t < 1) ∨ (1 ≤ o ∧ o ≤ n ∧ 1 ≤ t ∧ n < t) := by omega
    clear hc
    rcases hk12 with rfl | rfl
    all_goals
      rcases hd with c1 | ⟨c1, c2⟩ | ⟨c1, c2, c3⟩ | ⟨c1, c2, c3, c4⟩
      all_goals
        go_enter Try.func10, Try.ntmps10
        go_upto_region 1 with (fail)
        rw [← HW.out, ← HB.out]
        clear HW HB
        go_wp2_with fail
        go_ret
        exact ⟨rfl, HF.out⟩
end Go.Proofs.Ytliljjlegofmkaa
