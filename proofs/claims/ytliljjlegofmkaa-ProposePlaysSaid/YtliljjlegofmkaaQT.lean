/- The document's whole. -/
import Derived.Test.YtliljjlegofmkaaQS
import Derived.Deep.RegionHeld3
import Derived.Deep.RegionLaw
import Derived.Deep.RegionWith
namespace Go.Proofs.Ytliljjlegofmkaa
open Go.RowKit

set_option maxRecDepth 100000 in
set_option maxHeartbeats 4000000 in
theorem rwhole_any (k o t : Int) (N : Nat) (l : List Int) (sec : Bool) (s : Value) (X i : Nat) (hX : X < 4294967296) (hN : N ≤ 12) (hi : i < N) (G : Nat → Int)
    (hG : ∀ j, j < N → ∀ w, Ints w s l → Calls Try.prog 61 #[.agg #[.int .i64 k, .int .i64 N, .int .i64 o, .int .i64 t, s], .bool sec, .int .i64 (j : Int)] w fun e w' => e = .returned (.int .i64 (G j)) ∧ Fr (fun _ => False) w w')
    (w : World) (hs : Ints w s l) :
    Calls Try.prog 41 #[.agg #[.int .i64 k, .int .i64 N, .int .i64 o, .int .i64 t, s], .bool sec, .int .u32 (X : Int), .int .i64 (i : Int)] w fun e w' => e = .returned (.bool (allN N fun j => !decide (G j = G i) || X.testBit j)) ∧ Fr (fun _ => False) w w' := by
  have HG := Lib.hid hG
  have hs0 := hs
  obtain ⟨A, c, rfl, -⟩ := hs0
  obtain ⟨w1, hw1⟩ : ∃ w1, w1 = w.alloc (.cells #[.int .i64 k, .int .i64 N, .int .i64 o, .int .i64 t, .slice A l.length c] 24) := ⟨_, rfl⟩
  obtain ⟨q0, hq0⟩ : ∃ q0, q0 = w.heap.size := ⟨_, rfl⟩
  have hf : Fr (fun _ => False) w w1 := by rw [hw1]; exact (Fr.refl _ w).alloc _
  have hb : Blk w1 q0 24 #[.int .i64 k, .int .i64 N, .int .i64 o, .int .i64 t, .slice A l.length c] := by rw [hw1, hq0]; exact Blk.new _ _ _
  have hs1 := hs.up hf
  have HF := Lib.hid hf
  have HW := Lib.hid hw1
  have HQ := Lib.hid hq0
  have b1 := hb.cell 1 rfl
  clear hf hs hw1 hq0 hG
  go_enter Try.func41, Try.ntmps41
  go_upto_region 1 with (fail)
  rw [← HW.out, ← HQ.out]
  clear HW HQ
  go_wp2_with fail
  go_loopg [9] N (fun g x9 wr => ∃ (j : Nat), j + g = N ∧ x9 = .int .i64 j ∧ allN j (fun j => !decide (G j = G i) || X.testBit j) = true ∧ Fr (fun _ => False) w1 wr)
  case atStart => exact ⟨0, by omega, rfl, rfl, Fr.refl _ _⟩
  case round =>
    obtain ⟨j, hj, rfl, hno, hfr⟩ := hrel
    have HJ := Lib.hid (And.intro hj hno)
    have hj' : j ≤ N := by omega
    clear hj hno b1
    have hbr := hb.fr hfr (fun h => h)
    have b0 := hbr.cell 0 rfl
    have b1 := hbr.cell 1 rfl
    have b2 := hbr.cell 2 rfl
    have b3 := hbr.cell 3 rfl
    have b4 := hbr.cell 4 rfl
    by_cases hlt : j < N
    · have F0 : Fr (fun _ => False) w1 (wr.drew) := hfr.drew
      have hkeep : ∀ wx, Fr (fun _ => False) w1 wx → wx.cell? ⟨q0, 0, none⟩ = some (.int .i64 k) ∧ wx.cell? ⟨q0, 1, none⟩ = some (.int .i64 N) ∧ wx.cell? ⟨q0, 2, none⟩ = some (.int .i64 o) ∧ wx.cell? ⟨q0, 3, none⟩ = some (.int .i64 t) ∧ wx.cell? ⟨q0, 4, none⟩ = some (.slice A l.length c) :=
        fun wx h => ⟨(hb.fr h (fun h => h)).cell 0 rfl, (hb.fr h (fun h => h)).cell 1 rfl, (hb.fr h (fun h => h)).cell 2 rfl, (hb.fr h (fun h => h)).cell 3 rfl, (hb.fr h (fun h => h)).cell 4 rfl⟩
      have HK := Lib.hid hkeep
      clear hkeep
      cases hg : (G j == G i) with
      | false =>
        have HGE := Lib.hid hg
        obtain ⟨ga, hga⟩ : ∃ a, a = G j := ⟨_, rfl⟩
        obtain ⟨gb, hgb⟩ : ∃ b, b = G i := ⟨_, rfl⟩
        have hg1 : (ga == gb) = false := by rw [hga, hgb]; exact hg
        have hg2 : decide (ga = gb) = false := by simpa using hg1
        have HGa := Lib.hid hga
        have HGb := Lib.hid hgb
        clear hga hgb
        go_upto_region 4 with (fail)
        first
          | go_region_law (first
                | (go_simp
                   go_at_call 61
                   refine (HG.out _ (by omega) _ (hs1.up F0)).mono ?_
                   rintro e w4 ⟨rfl, hf4⟩
                   first | rw [← HGa.out] | rw [← HGb.out]
                   replace F0 := F0.tr hf4
                   obtain ⟨d0, d1, d2, d3, d4⟩ := HK.out _ F0))
          | fail
        all_goals
          clear hg hg1 hg2
          go_wp2_with fail
          go_roundg (N - (j + 1))
          case measure => have := HJ.out; omega
          case rel =>
            refine ⟨j + 1, by have := HJ.out; omega, by go_num, ?_, F0⟩
            simp only [allN]
            rw [HJ.out.2, decide_eq_false (by have := HGE.out; simpa using this)]
            rfl
      | true =>
        have HGE := Lib.hid hg
        cases ht : X.testBit j with
        | true =>
          have HT := Lib.hid ht
          clear ht
          go_upto_region 4 with (fail)
          go_region_held3 (fun wx => wx.cell? ⟨q0, 0, none⟩ = some (.int .i64 k) ∧ wx.cell? ⟨q0, 1, none⟩ = some (.int .i64 N) ∧ wx.cell? ⟨q0, 2, none⟩ = some (.int .i64 o) ∧ wx.cell? ⟨q0, 3, none⟩ = some (.int .i64 t) ∧ wx.cell? ⟨q0, 4, none⟩ = some (.slice A l.length c)) (first | exact ⟨b0, b1, b2, b3, b4⟩ | exact hS4)
            (first
              | (go_at_call 61
                 refine (HG.out _ (by omega) _ (hs1.up F0)).mono ?_
                 rintro e w4 ⟨rfl, hf4⟩
                 replace F0 := F0.tr hf4
                 have hS4 := HK.out _ F0)
              | (go_at_call 13
                 refine (has_any X j hX (by omega) _).mono ?_
                 rintro e w5 ⟨rfl, rfl⟩
                 rw [HT.out]))
          all_goals
            clear b0 b1 b2 b3 b4 hg
            go_wp2_with fail
            go_roundg (N - (j + 1))
            case measure => have := HJ.out; omega
            case rel =>
              refine ⟨j + 1, by have := HJ.out; omega, by go_num, ?_, F0⟩
              simp only [allN]
              rw [HJ.out.2, HT.out]
              simp
        | false =>
          have HT := Lib.hid ht
          clear ht
          go_upto_region 4 with (fail)
          go_region_held3 (fun wx => wx.cell? ⟨q0, 0, none⟩ = some (.int .i64 k) ∧ wx.cell? ⟨q0, 1, none⟩ = some (.int .i64 N) ∧ wx.cell? ⟨q0, 2, none⟩ = some (.int .i64 o) ∧ wx.cell? ⟨q0, 3, none⟩ = some (.int .i64 t) ∧ wx.cell? ⟨q0, 4, none⟩ = some (.slice A l.length c)) (first | exact ⟨b0, b1, b2, b3, b4⟩ | exact hS4)
            (first
              | (go_at_call 61
                 refine (HG.out _ (by omega) _ (hs1.up F0)).mono ?_
                 rintro e w4 ⟨rfl, hf4⟩
                 replace F0 := F0.tr hf4
                 have hS4 := HK.out _ F0)
              | (go_at_call 13
                 refine (has_any X j hX (by omega) _).mono ?_
                 rintro e w5 ⟨rfl, rfl⟩
                 rw [HT.out]))
          all_goals
            clear b0 b1 b2 b3 b4 hg
            go_wp2_with fail
            go_ret
            refine ⟨?_, HF.out.tr F0⟩
            have : (allN N fun j => !decide (G j = G i) || X.testBit j) = false := by
              rw [Bool.eq_false_iff]
              intro h
              have h1 := allN_iff.1 h j hlt
              rw [HT.out, decide_eq_true (by have := HGE.out; simpa using this)] at h1
              cases h1
            rw [this]
            rfl
    · obtain rfl : j = N := by omega
      go_wp2_with fail
      go_ret
      refine ⟨?_, HF.out.tr hfr⟩
      rw [HJ.out.2]
      rfl
end Go.Proofs.Ytliljjlegofmkaa
