/- The walk of QuorumReach. -/
import Derived.Test.YtpcfeiejfomnoaaQV
import Derived.Deep.RegionHeld3
namespace Go.Proofs.Ytpcfeiejfomnoaa
open Go.RowKit

set_option maxRecDepth 100000 in
set_option maxHeartbeats 8000000 in
theorem reach_law (q : Qu) (s : Value) (more : Int) (w : World) (hs : Ints w s q.s) :
    Calls Try.prog 4 #[q.v s, .int .i64 more] w fun e w' => e = .returned (.bool true) ∧ Below w.heap.size w w' := by
  have HM := Lib.hid (many_any q s)
  have H1 := Lib.hid (reach_any q more s)
  have H2 := Lib.hid (rreach_any q more s)
  obtain ⟨w1, bq, hw1, hbq, B⟩ := Qb.start hs
  obtain ⟨E, hE⟩ : ∃ E, E = reachE q more := ⟨_, rfl⟩
  have HE := Lib.hid hE
  clear hE
  obtain ⟨k, n, o, t, l⟩ := q
  have hs0 := hs
  obtain ⟨A, c, rfl, -⟩ := hs0
  simp only [Qu.v] at HM H1 H2 HE hw1 ⊢
  have HW := Lib.hid hw1
  have HB := Lib.hid hbq
  have B' := B
  obtain ⟨hfr, hbk, hit⟩ := B'
  simp only at hbk hit
  have b0 := hbk.cell 0 rfl
  have b1 := hbk.cell 1 rfl
  have b2 := hbk.cell 2 rfl
  have b3 := hbk.cell 3 rfl
  have b4 := hbk.cell 4 rfl
  clear hw1 hbq hs hfr hbk
  go_enter Try.func4, Try.ntmps4
  go_upto_region 1 with (fail)
  rw [← HW.out, ← HB.out]
  clear HW HB
  go_wp2_with fail
  refine (HM.out w1 hit).mono ?_
  rintro e w2 ⟨rfl, hf⟩
  have B := B.up hf
  clear b0 b1 b2 b3 b4 hf hit
  by_cases hl : 40 < l.length
  · rw [decide_eq_true hl]
    go_wp2_with fail
    refine (known_any w2).mono ?_
    rintro e w3 ⟨rfl, hf⟩
    go_wp2_with fail
    go_ret
    exact ⟨rfl, (B.up hf).below⟩
  rw [decide_eq_false hl]
  have hl' : l.length ≤ 1000 := by omega
  have hbk := B.bk
  simp only at hbk
  have b0 := hbk.cell 0 rfl
  have b1 := hbk.cell 1 rfl
  have b2 := hbk.cell 2 rfl
  have b3 := hbk.cell 3 rfl
  have b4 := hbk.cell 4 rfl
  have B0 := B.up ((Fr.refl _ w2).drew)
  have hkeep : ∀ wx, Qb w wx bq ⟨k, n, o, t, l⟩ (.slice A l.length c) → wx.cell? ⟨bq, 0, none⟩ = some (.int .i64 k) ∧ wx.cell? ⟨bq, 1, none⟩ = some (.int .i64 n) ∧ wx.cell? ⟨bq, 2, none⟩ = some (.int .i64 o) ∧ wx.cell? ⟨bq, 3, none⟩ = some (.int .i64 t) ∧ wx.cell? ⟨bq, 4, none⟩ = some (.slice A l.length c) :=
    fun wx h => ⟨h.bk.cell 0 rfl, h.bk.cell 1 rfl, h.bk.cell 2 rfl, h.bk.cell 3 rfl, h.bk.cell 4 rfl⟩
  have HKeep := Lib.hid hkeep
  clear hkeep hbk
  go_upto_region 3 with (fail)
  go_region_held3 (fun wx => wx.cell? ⟨bq, 0, none⟩ = some (.int .i64 k) ∧ wx.cell? ⟨bq, 1, none⟩ = some (.int .i64 n) ∧ wx.cell? ⟨bq, 2, none⟩ = some (.int .i64 o) ∧ wx.cell? ⟨bq, 3, none⟩ = some (.int .i64 t) ∧ wx.cell? ⟨bq, 4, none⟩ = some (.slice A l.length c)) (first | exact ⟨b0, b1, b2, b3, b4⟩ | exact hS4)
    (first
      | (go_at_call 13
         refine (H1.out _ (Qb.it B0) hl').mono ?_
         rintro e w4 ⟨rfl, hf4⟩
         rw [← HE.out]
         replace B0 := B0.up hf4
         have hS4 := HKeep.out _ B0)
      | (go_at_call 14
         refine (H2.out _ (Qb.it B0) hl').mono ?_
         rintro e w4 ⟨rfl, hf4⟩
         rw [← HE.out]
         replace B0 := B0.up hf4
         have hS4 := HKeep.out _ B0)
      | (go_at_call 10
         refine (known_any _).mono ?_
         rintro e w4 ⟨rfl, hf4⟩
         replace B0 := B0.up hf4
         have hS4 := HKeep.out _ B0))
  all_goals
    clear b0 b1 b2 b3 b4
    go_wp2_with fail
    go_ret
    exact ⟨rfl, B0.below⟩
end Go.Proofs.Ytpcfeiejfomnoaa
