/- Merged: QI QR QS QT QU. -/
import Derived.Test.YtkpfgoalohbfeaaBa
import Derived.Deep.QuietTactic
import Derived.Deep.RegionHeld3
import Derived.Deep.RegionLaw
import Derived.Deep.RegionWith
/- The document's Has, Count. -/
namespace Go.Proofs.Ytkpfgoalohbfeaa
open Go.RowKit

set_option maxHeartbeats 2000000 in
theorem has_any (X i : Nat) (hX : X < 4294967296) (hi : i < 12) (w : World) :
    Calls Try.prog 96 #[.int .u32 (X : Int), .int .i64 (i : Int)] w fun e w' => e = .returned (.bool (X.testBit i)) ∧ w = w' := by
  have h2 : ((X : Int) / 2 ^ i).tmod 2 = if X.testBit i = true then 1 else 0 := by
    have e : ((X / 2 ^ i : Nat) : Int) = (X : Int) / 2 ^ i := by simp
    rw [← e, Int.tmod_eq_emod_of_nonneg (Int.natCast_nonneg _), Nat.testBit_eq_decide_div_mod_eq]
    by_cases h : X / 2 ^ i % 2 = 1
    · simp only [h, decide_true, if_true]; omega
    · simp only [h, decide_false, Bool.false_eq_true, if_false]; omega
  have hmin : min i 32 = i := by omega
  have _u := hX
  clear _u
  cases ht : X.testBit i with
  | true =>
    rw [ht] at h2
    simp only [if_true] at h2
    clear ht
    go_enter Try.func96, Try.ntmps96
    go_wp2_with fail
    go_ret
    exact ⟨rfl, rfl⟩
  | false =>
    rw [ht] at h2
    simp only [Bool.false_eq_true, if_false] at h2
    clear ht
    go_enter Try.func96, Try.ntmps96
    go_wp2_with fail
    go_ret
    exact ⟨rfl, rfl⟩

set_option maxHeartbeats 2000000 in
theorem count_any (X : Nat) (n : Int) (hX : X < 4294967296) (hn : n ≤ 12) (w : World) :
    Calls Try.prog 93 #[.int .u32 (X : Int), .int .i64 n] w fun e w' => e = .returned (.int .i64 (cnt n.toNat X.testBit : Nat)) ∧ w = w' := by
  by_cases h0 : n < 0
  · have e : n.toNat = 0 := by omega
    rw [e]
    clear e
    go_enter Try.func93, Try.ntmps93
    go_wp2_with fail
    go_loopg [5, 6] 0 (fun g x5 x6 wr => x5 = .int .i64 0 ∧ x6 = .int .i64 0 ∧ w = wr)
    case atStart => exact ⟨rfl, rfl, rfl⟩
    case round =>
      obtain ⟨rfl, rfl, hw⟩ := hrel
      subst hw
      go_wp2_with fail
      go_ret
      exact ⟨rfl, rfl⟩
  · obtain ⟨N, rfl⟩ := Int.eq_ofNat_of_zero_le (show 0 ≤ n by omega)
    rw [Int.toNat_natCast]
    go_enter Try.func93, Try.ntmps93
    go_wp2_with fail
    go_loopg [5, 6] N (fun g x5 x6 wr => ∃ j : Nat, j + g = N ∧ x5 = .int .i64 (cnt j X.testBit : Nat) ∧ x6 = .int .i64 j ∧ w = wr)
    case atStart => exact ⟨0, by omega, rfl, rfl, rfl⟩
    case round =>
      obtain ⟨j, hj, rfl, rfl, hw⟩ := hrel
      have HJ := Lib.hid hj
      have hj' : j ≤ N := by omega
      have hc := cnt_le j X.testBit
      clear hj
      subst hw
      by_cases hlt : j < N
      · go_wp2_with fail
        refine (has_any X j hX (by omega) _).mono ?_
        rintro e w' ⟨rfl, rfl⟩
        cases ht : X.testBit j with
        | true =>
          have HT := Lib.hid ht
          clear ht
          go_wp2_with fail
          go_roundg (N - (j + 1))
          case measure => have := HJ.out; omega
          case rel => exact ⟨j + 1, by have := HJ.out; omega, by simp only [cnt]; rw [HT.out]; go_num, by go_num, rfl⟩
        | false =>
          have HT := Lib.hid ht
          clear ht
          go_wp2_with fail
          go_roundg (N - (j + 1))
          case measure => have := HJ.out; omega
          case rel => exact ⟨j + 1, by have := HJ.out; omega, by simp only [cnt]; rw [HT.out]; rfl, by go_num, rfl⟩
      · obtain rfl : j = N := by omega
        go_wp2_with fail
        go_ret
        exact ⟨rfl, rfl⟩
end Go.Proofs.Ytkpfgoalohbfeaa

/- The document's Right, group. -/
namespace Go.Proofs.Ytkpfgoalohbfeaa
open Go.RowKit

set_option maxRecDepth 100000 in
set_option maxHeartbeats 4000000 in
theorem rright_any (q : Qu) (s : Value) (w : World) (hs : Ints w s q.s) (hl : q.s.length ≤ 1000) :
    Calls Try.prog 44 #[q.v s] w fun e w' => e = .returned (.int .i64 (rightE q)) ∧ Fr (fun _ => False) w w' := by
  obtain ⟨w1, bq, hw1, hbq, hfr, hbk, hit⟩ : ∃ w1 b, w1 = w.alloc (.cells #[.int .i64 q.k, .int .i64 q.n, .int .i64 q.o, .int .i64 q.t, s] 24) ∧ b = w.heap.size ∧ Fr (fun _ => False) w w1 ∧ Blk w1 b 24 #[.int .i64 q.k, .int .i64 q.n, .int .i64 q.o, .int .i64 q.t, s] ∧ Ints w1 s q.s :=
    ⟨_, _, rfl, rfl, (Fr.refl _ w).alloc _, Blk.new _ _ _, hs.up ((Fr.refl _ w).alloc _)⟩
  obtain ⟨k, n, o, t, l⟩ := q
  have hs0 := hs
  obtain ⟨A, c, rfl, -⟩ := hs0
  have HW := Lib.hid hw1
  have HB := Lib.hid hbq
  have HI := Lib.hid hit
  have HF := Lib.hid hfr
  simp only [Qu.v] at hl hbk ⊢
  have b0 := hbk.cell 0 rfl
  have b1 := hbk.cell 1 rfl
  have b2 := hbk.cell 2 rfl
  have b3 := hbk.cell 3 rfl
  have b4 := hbk.cell 4 rfl
  clear hw1 hbq hit hfr hs hbk
  by_cases hn : n < 1 ∨ 12 < n
  · have e0 : rightE ⟨k, n, o, t, l⟩ = 2 := by unfold rightE; rw [if_pos hn]
    rw [e0]
    clear e0
    have hd : k < 1 ∨ 3 < k ∨ (1 ≤ k ∧ k ≤ 3 ∧ n < 1) ∨ (1 ≤ k ∧ k ≤ 3 ∧ 12 < n) := by omega
    clear hn
    rcases hd with c1 | c1 | ⟨c1, c2, c3⟩ | ⟨c1, c2, c3⟩
    all_goals
      go_enter Try.func44, Try.ntmps44
      go_upto_region 1 with (fail)
      rw [← HW.out, ← HB.out]
      clear HW HB
      go_wp2_with fail
      go_ret
      exact ⟨rfl, HF.out⟩
  have hn1 : 1 ≤ n := by omega
  have hn2 : n ≤ 12 := by omega
  have hn' : ¬ (n < 1 ∨ 12 < n) := hn
  clear hn
  by_cases hk : k < 1 ∨ 3 < k
  · have e0 : rightE ⟨k, n, o, t, l⟩ = 2 := by unfold rightE; rw [if_neg hn', if_neg (by simp only; omega), if_neg (by simp only; omega), if_neg (by simp only; omega)]
    rw [e0]
    clear e0 hn'
    rcases hk with c1 | c1
    all_goals
      go_enter Try.func44, Try.ntmps44
      go_upto_region 1 with (fail)
      rw [← HW.out, ← HB.out]
      clear HW HB
      go_wp2_with fail
      go_ret
      exact ⟨rfl, HF.out⟩
  by_cases k3 : k = 3
  · subst k3
    clear hk
    by_cases hln : (l.length : Int) = n
    · obtain ⟨E, hE⟩ : ∃ E, E = rightE ⟨3, n, o, t, l⟩ := ⟨_, rfl⟩
      have e0 : rightE ⟨3, n, o, t, l⟩ = if l.any badS = true then 2 else 0 := by
        unfold rightE
        rw [if_neg hn', if_neg (by simp), if_neg (by simp), if_pos rfl]
        cases l.any badS <;> simp [hln]
      rw [← hE]
      rw [← hE] at e0
      have HE := Lib.hid e0
      subst hln
      clear hE e0 hn'
      go_enter Try.func44, Try.ntmps44
      go_upto_region 1 with (fail)
      rw [← HW.out, ← HB.out]
      clear HW HB
      go_wp2_with fail
      go_loopg [3] l.length (fun g x3 wr => ∃ (j : Nat), j + g = l.length ∧ x3 = .int .i64 j ∧ (l.take j).any badS = false ∧ w1 = wr)
      case atStart => exact ⟨0, by omega, rfl, by simp, rfl⟩
      case round =>
        obtain ⟨j, hj, rfl, hany, hww⟩ := hrel
        have HJ := Lib.hid (And.intro hj hany)
        have hj' : j ≤ l.length := by omega
        clear hj hany
        subst hww
        by_cases hlt : j < l.length
        · obtain ⟨z, hz⟩ : ∃ z, l[j]? = some z := ⟨_, List.getElem?_eq_getElem hlt⟩
          obtain ⟨A', c', hA, h2⟩ := HI.out
          obtain ⟨b, off, rfl, h3⟩ := h2 (by rintro rfl; simp at hlt)
          injection hA with hA1 _ hA3
          subst hA1 hA3
          have q0 := h3 j z hz
          have ht : (l.take (j + 1)).any badS = badS z := by
            rw [List.take_add_one, hz, List.any_append, HJ.out.2]; simp
          have hm : badS z = true → l.any badS = true := fun h => by rw [List.any_eq_true]; exact ⟨z, List.mem_of_getElem? hz, h⟩
          have HT := Lib.hid (And.intro ht hm)
          clear ht hm hz h2 h3
          by_cases z0 : z < 0
          · go_wp2_with fail
            go_ret
            refine ⟨?_, HF.out⟩
            rw [HE.out, HT.out.2 (by simp [badS, z0])]
            rfl
          · by_cases z1 : 11 < z
            · go_wp2_with fail
              go_ret
              refine ⟨?_, HF.out⟩
              rw [HE.out, HT.out.2 (by simp [badS]; omega)]
              rfl
            · go_wp2_with fail
              go_roundg (l.length - (j + 1))
              case measure => have := HJ.out; omega
              case rel => exact ⟨j + 1, by have := HJ.out; omega, by go_num, by rw [HT.out.1]; simp [badS]; omega, rfl⟩
        · obtain rfl : j = l.length := by omega
          have h3 := HJ.out.2
          rw [List.take_length] at h3
          have H3 := Lib.hid h3
          clear h3
          go_wp2_with fail
          go_ret
          refine ⟨?_, HF.out⟩
          rw [HE.out, H3.out]
          rfl
    · have hln' : ((l.length : Int) == n) = false := by simp [hln]
      have hln2 : ((l.length : Int) != n) = true := by unfold bne; rw [hln']; rfl
      have e0 : rightE ⟨3, n, o, t, l⟩ = 2 := by unfold rightE; rw [if_neg hn', if_neg (by simp), if_neg (by simp), if_pos rfl]; simp [hln]
      rw [e0]
      clear e0 hn' hln
      go_enter Try.func44, Try.ntmps44
      go_upto_region 1 with (fail)
      rw [← HW.out, ← HB.out]
      clear HW HB
      go_wp2_with fail
      go_ret
      exact ⟨rfl, HF.out⟩
  have hk12 : k = 1 ∨ k = 2 := by omega
  clear hk k3
  by_cases hc : 1 ≤ o ∧ o ≤ n ∧ 1 ≤ t ∧ t ≤ n
  · have hcc : cts ⟨k, n, o, t, l⟩ = true := by simp [cts, hc]
    obtain ⟨c1, c2, c3, c4⟩ := hc
    rcases hk12 with rfl | rfl
    · by_cases hm : o + t ≤ n
      · have e0 : rightE ⟨1, n, o, t, l⟩ = 80 := by unfold rightE; rw [if_neg hn', if_pos rfl, hcc, if_pos rfl, if_pos hm]
        rw [e0]
        clear e0 hcc hn'
        go_enter Try.func44, Try.ntmps44
        go_upto_region 1 with (fail)
        rw [← HW.out, ← HB.out]
        clear HW HB
        go_wp2_with fail
        go_ret
        exact ⟨rfl, HF.out⟩
      · have e0 : rightE ⟨1, n, o, t, l⟩ = 0 := by unfold rightE; rw [if_neg hn', if_pos rfl, hcc, if_pos rfl, if_neg hm]
        rw [e0]
        clear e0 hcc hn'
        go_enter Try.func44, Try.ntmps44
        go_upto_region 1 with (fail)
        rw [← HW.out, ← HB.out]
        clear HW HB
        go_wp2_with fail
        go_ret
        exact ⟨rfl, HF.out⟩
    · have hm0 : o * t ≤ 144 := Int.le_trans (Int.mul_le_mul (show o ≤ 12 by omega) (show t ≤ 12 by omega) (by omega) (by omega)) (by omega)
      have hm1 : 0 ≤ o * t := Int.mul_nonneg (by omega) (by omega)
      have hm2 : IntKind.i64.wrap (o * t) = o * t := IntWalk.i64_in _ (by omega)
      by_cases hm : o * t = n
      · have e0 : rightE ⟨2, n, o, t, l⟩ = 0 := by unfold rightE; rw [if_neg hn', if_neg (by simp), if_pos rfl, hcc]; simp [hm]
        have hm' : (o * t == n) = true := by simp [hm]
        have hm3 : (o * t != n) = false := by unfold bne; rw [hm']; rfl
        rw [e0]
        clear e0 hcc hm hn'
        go_enter Try.func44, Try.ntmps44
        go_upto_region 1 with (fail)
        rw [← HW.out, ← HB.out]
        clear HW HB
        go_wp2_with fail
        go_ret
        exact ⟨rfl, HF.out⟩
      · have e0 : rightE ⟨2, n, o, t, l⟩ = 2 := by unfold rightE; rw [if_neg hn', if_neg (by simp), if_pos rfl, hcc]; simp [hm]
        have hm' : (o * t == n) = false := by simp [hm]
        have hm3 : (o * t != n) = true := by unfold bne; rw [hm']; rfl
        rw [e0]
        clear e0 hcc hm hn'
        go_enter Try.func44, Try.ntmps44
        go_upto_region 1 with (fail)
        rw [← HW.out, ← HB.out]
        clear HW HB
        go_wp2_with fail
        go_ret
        exact ⟨rfl, HF.out⟩
  · have hcc : cts ⟨k, n, o, t, l⟩ = false := by simp only [cts, decide_eq_false_iff_not]; exact hc
    have e0 : rightE ⟨k, n, o, t, l⟩ = 2 := by
      unfold rightE
      rw [if_neg hn', hcc]
      rcases hk12 with rfl | rfl <;> simp
    rw [e0]
    clear e0 hcc hn'
    have hd : o < 1 ∨ (1 ≤ o ∧ n < o) ∨ (1 ≤ o ∧ o ≤ n ∧ t < 1) ∨ (1 ≤ o ∧ o ≤ n ∧ 1 ≤ t ∧ n < t) := by omega
    clear hc
    rcases hk12 with rfl | rfl
    all_goals
      rcases hd with c1 | ⟨c1, c2⟩ | ⟨c1, c2, c3⟩ | ⟨c1, c2, c3, c4⟩
      all_goals
        go_enter Try.func44, Try.ntmps44
        go_upto_region 1 with (fail)
        rw [← HW.out, ← HB.out]
        clear HW HB
        go_wp2_with fail
        go_ret
        exact ⟨rfl, HF.out⟩
end Go.Proofs.Ytkpfgoalohbfeaa

/- The document's group, whole, some. -/
namespace Go.Proofs.Ytkpfgoalohbfeaa
open Go.RowKit

theorem quiet_left {P : Program} {f : FuncId} {args : Array Value} {w : World} {n : Nat} {v : Value}
    (h : Calls P f args (w.drewN n) fun e w' => e = .returned v ∧ w.drewN n = w') : Calls P f args (w.drewN n) fun e w'' => e = .returned v ∧ ∃ m, w'' = w.drewN m :=
  h.mono fun _ _ ⟨he, hm⟩ => ⟨he, n, hm.symm⟩
set_option maxHeartbeats 2000000 in
theorem rgroup_two (N O T i : Nat) (l : List Int) (sec : Bool) (s : Value) (w : World) (hs : Ints w s l) (hT : 1 ≤ T) (hT2 : T ≤ 12) (hi : i < 12) :
    Calls Try.prog 97 #[.agg #[.int .i64 2, .int .i64 N, .int .i64 O, .int .i64 T, s], .bool sec, .int .i64 i] w fun e w' => e = .returned (.int .i64 ((if sec then i % T else i / T : Nat) : Int)) ∧ Fr (fun _ => False) w w' := by
  obtain ⟨A, c, rfl, -⟩ := hs
  have hf := (Fr.refl (fun _ => False) w).alloc (.cells #[.int .i64 2, .int .i64 N, .int .i64 O, .int .i64 T, .slice A l.length c] 24)
  have HF := Lib.hid hf
  have hT' : (1 : Int) ≤ (T : Int) := by omega
  have hd1 : 0 ≤ (i : Int) / (T : Int) := Int.ediv_nonneg (by omega) (by omega)
  have hd2 : (i : Int) / (T : Int) ≤ 12 := Int.le_trans (Int.ediv_le_self _ (by omega)) (by omega)
  clear hf
  cases sec with
  | true =>
    go_enter Try.func97, Try.ntmps97
    go_wp2_with fail
    go_ret
    exact ⟨rfl, HF.out⟩
  | false =>
    go_enter Try.func97, Try.ntmps97
    go_wp2_with fail
    go_ret
    exact ⟨rfl, HF.out⟩
set_option maxHeartbeats 2000000 in
theorem rgroup_three (n o t : Int) (i : Nat) (z : Int) (l : List Int) (sec : Bool) (s : Value) (w : World) (hs : Ints w s l) (hl : l.length ≤ 1000) (hz : l[i]? = some z) :
    Calls Try.prog 97 #[.agg #[.int .i64 3, .int .i64 n, .int .i64 o, .int .i64 t, s], .bool sec, .int .i64 i] w fun e w' => e = .returned (.int .i64 z) ∧ Fr (fun _ => False) w w' := by
  have hi := (List.getElem?_eq_some_iff.1 hz).1
  obtain ⟨A, c, rfl, h2⟩ := hs
  obtain ⟨b, off, rfl, h3⟩ := h2 (by rintro rfl; simp at hi)
  obtain ⟨w1, hw1⟩ : ∃ w1, w1 = w.alloc (.cells #[.int .i64 3, .int .i64 n, .int .i64 o, .int .i64 t, .slice (some ⟨b, off, none⟩) l.length c] 24) := ⟨_, rfl⟩
  have hf : Fr (fun _ => False) w w1 := by rw [hw1]; exact (Fr.refl _ w).alloc _
  have hb : Blk w1 w.heap.size 24 #[.int .i64 3, .int .i64 n, .int .i64 o, .int .i64 t, .slice (some ⟨b, off, none⟩) l.length c] := by rw [hw1]; exact Blk.new _ _ _
  have g0 := hf.cell (h3 i z hz) (fun h => h)
  have HF := Lib.hid hf
  have HW := Lib.hid hw1
  have b0 := hb.cell 0 rfl
  have b4 := hb.cell 4 rfl
  clear hf hw1 hb hz h2 h3
  go_enter Try.func97, Try.ntmps97
  go_upto_region 1 with (fail)
  rw [← HW.out]
  clear HW
  go_wp2_with fail
  go_ret
  exact ⟨rfl, HF.out⟩

set_option maxRecDepth 100000 in
set_option maxHeartbeats 4000000 in
theorem rsome_any (k n o t : Int) (l : List Int) (s : Value) (X i : Nat) (hX : X < 4294967296) (hN : l.length ≤ 12) (hn : n = (l.length : Int)) (hi : i < l.length) (w : World) (hs : Ints w s l) :
    Calls Try.prog 94 #[.agg #[.int .i64 k, .int .i64 n, .int .i64 o, .int .i64 t, s], .int .u32 (X : Int), .int .i64 (i : Int)] w fun e w' => e = .returned (.bool (anyN l.length fun j => decide (l[j]? = l[i]?) && X.testBit j)) ∧ Fr (fun _ => False) w w' := by
  subst hn
  obtain ⟨A, c, rfl, h2⟩ := hs
  obtain ⟨b, off, rfl, h3⟩ := h2 (by rintro rfl; simp at hi)
  obtain ⟨w1, hw1⟩ : ∃ w1, w1 = w.alloc (.cells #[.int .i64 k, .int .i64 (l.length : Int), .int .i64 o, .int .i64 t, .slice (some ⟨b, off, none⟩) l.length c] 24) := ⟨_, rfl⟩
  obtain ⟨q0, hq0⟩ : ∃ q0, q0 = w.heap.size := ⟨_, rfl⟩
  have hf : Fr (fun _ => False) w w1 := by rw [hw1]; exact (Fr.refl _ w).alloc _
  have hb : Blk w1 q0 24 #[.int .i64 k, .int .i64 (l.length : Int), .int .i64 o, .int .i64 t, .slice (some ⟨b, off, none⟩) l.length c] := by rw [hw1, hq0]; exact Blk.new _ _ _
  have hcell : ∀ j z, l[j]? = some z → w1.cell? ⟨b, off + j, none⟩ = some (.int .i64 z) := fun j z hz => hf.cell (h3 j z hz) (fun h => h)
  have HC := Lib.hid hcell
  have HF := Lib.hid hf
  have HW := Lib.hid hw1
  have HQ := Lib.hid hq0
  obtain ⟨zi, hzi⟩ : ∃ z, l[i]? = some z := ⟨_, List.getElem?_eq_getElem hi⟩
  have HZi := Lib.hid hzi
  have b1 := hb.cell 1 rfl
  clear hf hw1 hq0 hcell h2 h3 hzi
  go_enter Try.func94, Try.ntmps94
  go_upto_region 1 with (fail)
  rw [← HW.out, ← HQ.out]
  clear HW HQ
  go_wp2_with fail
  go_loopg [7] l.length (fun g x7 wr => ∃ (j : Nat), j + g = l.length ∧ x7 = .int .i64 j ∧ anyN j (fun j => decide (l[j]? = l[i]?) && X.testBit j) = false ∧ Fr (fun _ => False) w1 wr)
  case atStart => exact ⟨0, by omega, rfl, rfl, Fr.refl _ _⟩
  case round =>
    obtain ⟨j, hj, rfl, hno, hfr⟩ := hrel
    have HJ := Lib.hid (And.intro hj hno)
    have hj' : j ≤ l.length := by omega
    clear hj hno b1
    have hbr := hb.fr hfr (fun h => h)
    have b1 := hbr.cell 1 rfl
    have b4 := hbr.cell 4 rfl
    by_cases hlt : j < l.length
    · obtain ⟨z, hz⟩ : ∃ z, l[j]? = some z := ⟨_, List.getElem?_eq_getElem hlt⟩
      have g0 := hfr.cell (HC.out j z hz) (fun h => h)
      have g1 := hfr.cell (HC.out i zi HZi.out) (fun h => h)
      have hde : decide (l[j]? = l[i]?) = (z == zi) := by
        rw [hz, HZi.out, Bool.eq_iff_iff]; simp
      have HD := Lib.hid hde
      clear hde hz
      cases hg : (z == zi) with
      | false =>
        have HGE := Lib.hid hg
        have hg2 : decide (z = zi) = false := by simpa using hg
        go_upto_region 4 with (fail)
        go_quiet (fail)
        clear g0 g1 hg hg2
        go_wp2_with fail
        go_roundg (l.length - (j + 1))
        case measure => have := HJ.out; omega
        case rel => exact ⟨j + 1, by have := HJ.out; omega, by go_num, by simp only [anyN]; rw [HJ.out.2, HD.out, HGE.out]; rfl, hfr.drewN _⟩
      | true =>
        have HGE := Lib.hid hg
        have hzz : z = zi := by simpa using hg
        subst hzz
        cases ht : X.testBit j with
        | true =>
          have HT := Lib.hid ht
          clear hg
          go_upto_region 4 with (fail)
          go_quiet ((go_at_call 96; exact quiet_left (has_any X j hX (by omega) _)))
          clear g0 g1 ht
          go_wp2_with fail
          go_ret
          refine ⟨?_, HF.out.tr (hfr.drewN _)⟩
          have : (anyN l.length fun j => decide (l[j]? = l[i]?) && X.testBit j) = true := anyN_iff.2 ⟨j, hlt, by rw [HD.out, HGE.out, HT.out]; rfl⟩
          rw [this]
          rfl
        | false =>
          have HT := Lib.hid ht
          clear hg
          go_upto_region 4 with (fail)
          go_quiet ((go_at_call 96; exact quiet_left (has_any X j hX (by omega) _)))
          clear g0 g1 ht
          go_wp2_with fail
          go_roundg (l.length - (j + 1))
          case measure => have := HJ.out; omega
          case rel => exact ⟨j + 1, by have := HJ.out; omega, by go_num, by simp only [anyN]; rw [HJ.out.2, HD.out, HT.out]; simp, hfr.drewN _⟩
    · obtain rfl : j = l.length := by omega
      go_wp2_with fail
      go_ret
      refine ⟨?_, HF.out.tr hfr⟩
      rw [HJ.out.2]
      rfl
end Go.Proofs.Ytkpfgoalohbfeaa

/- The document's whole. -/
namespace Go.Proofs.Ytkpfgoalohbfeaa
open Go.RowKit

set_option maxRecDepth 100000 in
set_option maxHeartbeats 4000000 in
theorem rwhole_any (k o t : Int) (N : Nat) (l : List Int) (sec : Bool) (s : Value) (X i : Nat) (hX : X < 4294967296) (hN : N ≤ 12) (hi : i < N) (G : Nat → Int)
    (hG : ∀ j, j < N → ∀ w, Ints w s l → Calls Try.prog 97 #[.agg #[.int .i64 k, .int .i64 N, .int .i64 o, .int .i64 t, s], .bool sec, .int .i64 (j : Int)] w fun e w' => e = .returned (.int .i64 (G j)) ∧ Fr (fun _ => False) w w')
    (w : World) (hs : Ints w s l) :
    Calls Try.prog 95 #[.agg #[.int .i64 k, .int .i64 N, .int .i64 o, .int .i64 t, s], .bool sec, .int .u32 (X : Int), .int .i64 (i : Int)] w fun e w' => e = .returned (.bool (allN N fun j => !decide (G j = G i) || X.testBit j)) ∧ Fr (fun _ => False) w w' := by
  have HG := Lib.hid hG
  have hs0 := hs
  obtain ⟨A, c, rfl, -⟩ := hs0
  obtain ⟨w1, hw1⟩ : ∃ w1, w1 = w.alloc (.cells #[.int .i64 k, .int .i64 N, .int .i64 o, .int .i64 t, .slice A l.length c] 24) := ⟨_, rfl⟩
  obtain ⟨q0, hq0⟩ : ∃ q0, q0 = w.heap.size := ⟨_, rfl⟩
  have hf : Fr (fun _ => False) w w1 := by rw [hw1]; exact (Fr.refl _ w).alloc _
  have hb : Blk w1 q0 24 #[.int .i64 k, .int .i64 N, .int .i64 o, .int .i64 t, .slice A l.length c] := by rw [hw1, hq0]; exact Blk.new _ _ _
  have hs1 := hs.up hf
  have HF := Lib.hid hf
  have HW := Lib.hid hw1
  have HQ := Lib.hid hq0
  have b1 := hb.cell 1 rfl
  clear hf hs hw1 hq0 hG
  go_enter Try.func95, Try.ntmps95
  go_upto_region 1 with (fail)
  rw [← HW.out, ← HQ.out]
  clear HW HQ
  go_wp2_with fail
  go_loopg [9] N (fun g x9 wr => ∃ (j : Nat), j + g = N ∧ x9 = .int .i64 j ∧ allN j (fun j => !decide (G j = G i) || X.testBit j) = true ∧ Fr (fun _ => False) w1 wr)
  case atStart => exact ⟨0, by omega, rfl, rfl, Fr.refl _ _⟩
  case round =>
    obtain ⟨j, hj, rfl, hno, hfr⟩ := hrel
    have HJ := Lib.hid (And.intro hj hno)
    have hj' : j ≤ N := by omega
    clear hj hno b1
    have hbr := hb.fr hfr (fun h => h)
    have b0 := hbr.cell 0 rfl
    have b1 := hbr.cell 1 rfl
    have b2 := hbr.cell 2 rfl
    have b3 := hbr.cell 3 rfl
    have b4 := hbr.cell 4 rfl
    by_cases hlt : j < N
    · have F0 : Fr (fun _ => False) w1 (wr.drew) := hfr.drew
      have hkeep : ∀ wx, Fr (fun _ => False) w1 wx → wx.cell? ⟨q0, 0, none⟩ = some (.int .i64 k) ∧ wx.cell? ⟨q0, 1, none⟩ = some (.int .i64 N) ∧ wx.cell? ⟨q0, 2, none⟩ = some (.int .i64 o) ∧ wx.cell? ⟨q0, 3, none⟩ = some (.int .i64 t) ∧ wx.cell? ⟨q0, 4, none⟩ = some (.slice A l.length c) :=
        fun wx h => ⟨(hb.fr h (fun h => h)).cell 0 rfl, (hb.fr h (fun h => h)).cell 1 rfl, (hb.fr h (fun h => h)).cell 2 rfl, (hb.fr h (fun h => h)).cell 3 rfl, (hb.fr h (fun h => h)).cell 4 rfl⟩
      have HK := Lib.hid hkeep
      clear hkeep
      cases hg : (G j == G i) with
      | false =>
        have HGE := Lib.hid hg
        obtain ⟨ga, hga⟩ : ∃ a, a = G j := ⟨_, rfl⟩
        obtain ⟨gb, hgb⟩ : ∃ b, b = G i := ⟨_, rfl⟩
        have hg1 : (ga == gb) = false := by rw [hga, hgb]; exact hg
        have hg2 : decide (ga = gb) = false := by simpa using hg1
        have HGa := Lib.hid hga
        have HGb := Lib.hid hgb
        clear hga hgb
        go_upto_region 4 with (fail)
        first
          | go_region_law (first
                | (go_simp
                   go_at_call 97
                   refine (HG.out _ (by omega) _ (hs1.up F0)).mono ?_
                   rintro e w4 ⟨rfl, hf4⟩
                   first | rw [← HGa.out] | rw [← HGb.out]
                   replace F0 := F0.tr hf4
                   obtain ⟨d0, d1, d2, d3, d4⟩ := HK.out _ F0))
          | fail
        all_goals
          clear hg hg1 hg2
          go_wp2_with fail
          go_roundg (N - (j + 1))
          case measure => have := HJ.out; omega
          case rel =>
            refine ⟨j + 1, by have := HJ.out; omega, by go_num, ?_, F0⟩
            simp only [allN]
            rw [HJ.out.2, decide_eq_false (by have := HGE.out; simpa using this)]
            rfl
      | true =>
        have HGE := Lib.hid hg
        cases ht : X.testBit j with
        | true =>
          have HT := Lib.hid ht
          clear ht
          go_upto_region 4 with (fail)
          go_region_held3 (fun wx => wx.cell? ⟨q0, 0, none⟩ = some (.int .i64 k) ∧ wx.cell? ⟨q0, 1, none⟩ = some (.int .i64 N) ∧ wx.cell? ⟨q0, 2, none⟩ = some (.int .i64 o) ∧ wx.cell? ⟨q0, 3, none⟩ = some (.int .i64 t) ∧ wx.cell? ⟨q0, 4, none⟩ = some (.slice A l.length c)) (first | exact ⟨b0, b1, b2, b3, b4⟩ | exact hS4)
            (first
              | (go_at_call 97
                 refine (HG.out _ (by omega) _ (hs1.up F0)).mono ?_
                 rintro e w4 ⟨rfl, hf4⟩
                 replace F0 := F0.tr hf4
                 have hS4 := HK.out _ F0)
              | (go_at_call 96
                 refine (has_any X j hX (by omega) _).mono ?_
                 rintro e w5 ⟨rfl, rfl⟩
                 rw [HT.out]))
          all_goals
            clear b0 b1 b2 b3 b4 hg
            go_wp2_with fail
            go_roundg (N - (j + 1))
            case measure => have := HJ.out; omega
            case rel =>
              refine ⟨j + 1, by have := HJ.out; omega, by go_num, ?_, F0⟩
              simp only [allN]
              rw [HJ.out.2, HT.out]
              simp
        | false =>
          have HT := Lib.hid ht
          clear ht
          go_upto_region 4 with (fail)
          go_region_held3 (fun wx => wx.cell? ⟨q0, 0, none⟩ = some (.int .i64 k) ∧ wx.cell? ⟨q0, 1, none⟩ = some (.int .i64 N) ∧ wx.cell? ⟨q0, 2, none⟩ = some (.int .i64 o) ∧ wx.cell? ⟨q0, 3, none⟩ = some (.int .i64 t) ∧ wx.cell? ⟨q0, 4, none⟩ = some (.slice A l.length c)) (first | exact ⟨b0, b1, b2, b3, b4⟩ | exact hS4)
            (first
              | (go_at_call 97
                 refine (HG.out _ (by omega) _ (hs1.up F0)).mono ?_
                 rintro e w4 ⟨rfl, hf4⟩
                 replace F0 := F0.tr hf4
                 have hS4 := HK.out _ F0)
              | (go_at_call 96
                 refine (has_any X j hX (by omega) _).mono ?_
                 rintro e w5 ⟨rfl, rfl⟩
                 rw [HT.out]))
          all_goals
            clear b0 b1 b2 b3 b4 hg
            go_wp2_with fail
            go_ret
            refine ⟨?_, HF.out.tr F0⟩
            have : (allN N fun j => !decide (G j = G i) || X.testBit j) = false := by
              rw [Bool.eq_false_iff]
              intro h
              have h1 := allN_iff.1 h j hlt
              rw [HT.out, decide_eq_true (by have := HGE.out; simpa using this)] at h1
              cases h1
            rw [this]
            rfl
    · obtain rfl : j = N := by omega
      go_wp2_with fail
      go_ret
      refine ⟨?_, HF.out.tr hfr⟩
      rw [HJ.out.2]
      rfl
end Go.Proofs.Ytkpfgoalohbfeaa

/- The document's Is. -/
namespace Go.Proofs.Ytkpfgoalohbfeaa
open Go.RowKit

/-- Two nodes of one group: the grid's, the sites'. -/
def grp (sec : Bool) (T : Nat) (i : Nat) : Int := ((if sec then i % T else i / T : Nat) : Int)
theorem two_eq (N O T : Nat) (l : List Int) (sec : Bool) (p : Nat → Bool) (t1 : 1 ≤ T) (oN : O ≤ N) (tN : T ≤ N) (m : O * T = N) :
    (anyN N fun i => allN N fun j => !decide (grp sec T j = grp sec T i) || p j) = quo ⟨2, N, O, T, l⟩ sec p := by
  have _u := oN
  clear _u
  unfold quo
  rw [if_neg (by simp), if_pos rfl, Bool.eq_iff_iff]
  cases sec with
  | true =>
    simp only [if_true, Int.toNat_natCast]
    rw [anyN_iff, anyN_iff]
    constructor
    · rintro ⟨i, hi, h⟩
      refine ⟨i % T, Nat.mod_lt _ (by omega), allN_iff.2 fun j hj => ?_⟩
      have := allN_iff.1 h j hj
      simpa [grp] using this
    · rintro ⟨c, hc, h⟩
      refine ⟨c, by omega, allN_iff.2 fun j hj => ?_⟩
      have := allN_iff.1 h j hj
      simpa [grp, Nat.mod_eq_of_lt hc] using this
  | false =>
    simp only [Bool.false_eq_true, if_false, Int.toNat_natCast]
    rw [anyN_iff, anyN_iff]
    constructor
    · rintro ⟨i, hi, h⟩
      refine ⟨i / T, ?_, allN_iff.2 fun j hj => ?_⟩
      · rw [Nat.div_lt_iff_lt_mul (by omega)]; omega
      · have := allN_iff.1 h j hj
        simpa [grp] using this
    · rintro ⟨r, hr, h⟩
      have hlt : r * T < N := by
        rw [← m]
        have : (r + 1) * T ≤ O * T := Nat.mul_le_mul_right _ hr
        rw [Nat.add_mul] at this
        omega
      refine ⟨r * T, hlt, allN_iff.2 fun j hj => ?_⟩
      have := allN_iff.1 h j hj
      simpa [grp, Nat.mul_div_cancel _ (show 0 < T by omega)] using this
theorem three_eq (o t : Int) (l : List Int) (p : Nat → Bool) :
    (anyN l.length fun i => allN l.length fun j => !decide (l.getD j 0 = l.getD i 0) || p j) = quo ⟨3, l.length, o, t, l⟩ true p := by
  unfold quo
  rw [if_neg (by simp), if_neg (by simp)]
  simp only [if_true, Int.toNat_natCast]
  rw [Bool.eq_iff_iff, anyN_iff, anyN_iff]
  have e : ∀ i j, i < l.length → j < l.length → (decide (l.getD j 0 = l.getD i 0) = decide (l[j]? = l[i]?)) := fun i j hi hj => by
    simp [List.getD_eq_getElem?_getD, List.getElem?_eq_getElem hi, List.getElem?_eq_getElem hj]
  constructor
  · rintro ⟨i, hi, h⟩
    exact ⟨i, hi, allN_iff.2 fun j hj => by rw [← e i j hi hj]; exact allN_iff.1 h j hj⟩
  · rintro ⟨i, hi, h⟩
    exact ⟨i, hi, allN_iff.2 fun j hj => by rw [e i j hi hj]; exact allN_iff.1 h j hj⟩

set_option maxRecDepth 100000 in
set_option maxHeartbeats 4000000 in
theorem ris_bad (q : Qu) (sec : Bool) (s : Value) (X : Nat) (w : World) (hs : Ints w s q.s) (hl : q.s.length ≤ 1000) (h : ¬ rightE q = 0) :
    Calls Try.prog 90 #[q.v s, .bool sec, .int .u32 X] w fun e w' => e = .returned (.bool false) ∧ Fr (fun _ => False) w w' := by
  have HC := Lib.hid (rright_any q s)
  obtain ⟨k, n, o, t, l⟩ := q
  have hs0 := hs
  obtain ⟨A, c, rfl, -⟩ := hs0
  have hf := (Fr.refl (fun _ => False) w).alloc (.cells #[.int .i64 k, .int .i64 n, .int .i64 o, .int .i64 t, .slice A l.length c] 24)
  have HF := Lib.hid (And.intro hf (hs.up hf))
  simp only [Qu.v] at hl HC ⊢
  have h' : (rightE ⟨k, n, o, t, l⟩ == 0) = false := by simp [h]
  have h2 : (rightE ⟨k, n, o, t, l⟩ != 0) = true := by unfold bne; rw [h']; rfl
  clear hf hs h
  go_enter Try.func90, Try.ntmps90
  go_wp2_with fail
  refine (HC.out _ HF.out.2 hl).mono ?_
  rintro e w2 ⟨rfl, hf2⟩
  go_wp2_with fail
  go_ret
  exact ⟨rfl, HF.out.1.tr hf2⟩
set_option maxRecDepth 100000 in
set_option maxHeartbeats 4000000 in
theorem ris_one_false (N O T : Nat) (l : List Int) (n1 : 1 ≤ N) (n12 : N ≤ 12) (o1 : 1 ≤ O) (oN : O ≤ N) (t1 : 1 ≤ T) (tN : T ≤ N) (m : N < O + T) (s : Value) (X : Nat) (hX : X < 4294967296) (w : World) (hs : Ints w s l) (hl : l.length ≤ 1000) :
    Calls Try.prog 90 #[.agg #[.int .i64 1, .int .i64 N, .int .i64 O, .int .i64 T, s], .bool false, .int .u32 X] w fun e w' => e = .returned (.bool (quo ⟨1, N, O, T, l⟩ false X.testBit)) ∧ Fr (fun _ => False) w w' := by
  have HC := Lib.hid (rright_any ⟨1, N, O, T, l⟩ s)
  have HE := Lib.hid (Ok.one N O T l n1 n12 o1 oN t1 tN m).right
  have hs0 := hs
  obtain ⟨A, c, rfl, -⟩ := hs0
  obtain ⟨w1, hw1⟩ : ∃ w1, w1 = w.alloc (.cells #[.int .i64 1, .int .i64 N, .int .i64 O, .int .i64 T, .slice A l.length c] 24) := ⟨_, rfl⟩
  obtain ⟨q0, hq0⟩ : ∃ q0, q0 = w.heap.size := ⟨_, rfl⟩
  have hf : Fr (fun _ => False) w w1 := by rw [hw1]; exact (Fr.refl _ w).alloc _
  have hb : Blk w1 q0 24 #[.int .i64 1, .int .i64 N, .int .i64 O, .int .i64 T, .slice A l.length c] := by rw [hw1, hq0]; exact Blk.new _ _ _
  have HW := Lib.hid hw1
  have HQ := Lib.hid hq0
  have HF := Lib.hid (And.intro hf (hs.up hf))
  obtain ⟨V, hV⟩ : ∃ V, V = quo ⟨1, N, O, T, l⟩ false X.testBit := ⟨_, rfl⟩
  rw [← hV]
  have HV := Lib.hid hV
  have b0 := hb.cell 0 rfl
  have b1 := hb.cell 1 rfl
  have b2 := hb.cell 2 rfl
  have b3 := hb.cell 3 rfl
  have b4 := hb.cell 4 rfl
  simp only [Qu.v] at HC
  clear hf hs hw1 hq0 hV
  go_enter Try.func90, Try.ntmps90
  go_upto_region 1 with (fail)
  rw [← HW.out, ← HQ.out]
  clear HW HQ
  go_wp2_with fail
  refine (HC.out w1 HF.out.2 (by omega)).mono ?_
  rintro e w2 ⟨rfl, hf2⟩
  rw [HE.out]
  have hb2 := hb.fr hf2 (fun h => h)
  have hff := HF.out.1.tr hf2
  have hs2 := HF.out.2.up hf2
  clear b0 b1 b2 b3 b4 hf2 hb HF HC
  have b0 := hb2.cell 0 rfl
  have b1 := hb2.cell 1 rfl
  have b2 := hb2.cell 2 rfl
  have b3 := hb2.cell 3 rfl
  have b4 := hb2.cell 4 rfl
  go_wp2_with fail
  go_quiet ((go_at_call 93; exact quiet_left (count_any X N hX (by omega) _)))
  go_wp2_with fail
  go_ret
  refine ⟨?_, hff.drewN _⟩
  rw [HV.out]
  unfold quo
  rw [if_pos rfl]
  show Ending.returned (.bool (decide (O ≤ cnt N X.testBit))) = _
  congr 2
  rw [decide_eq_decide]
  simp
set_option maxRecDepth 100000 in
set_option maxHeartbeats 4000000 in
theorem ris_one_true (N O T : Nat) (l : List Int) (n1 : 1 ≤ N) (n12 : N ≤ 12) (o1 : 1 ≤ O) (oN : O ≤ N) (t1 : 1 ≤ T) (tN : T ≤ N) (m : N < O + T) (s : Value) (X : Nat) (hX : X < 4294967296) (w : World) (hs : Ints w s l) (hl : l.length ≤ 1000) :
    Calls Try.prog 90 #[.agg #[.int .i64 1, .int .i64 N, .int .i64 O, .int .i64 T, s], .bool true, .int .u32 X] w fun e w' => e = .returned (.bool (quo ⟨1, N, O, T, l⟩ true X.testBit)) ∧ Fr (fun _ => False) w w' := by
  have HC := Lib.hid (rright_any ⟨1, N, O, T, l⟩ s)
  have HE := Lib.hid (Ok.one N O T l n1 n12 o1 oN t1 tN m).right
  have hs0 := hs
  obtain ⟨A, c, rfl, -⟩ := hs0
  obtain ⟨w1, hw1⟩ : ∃ w1, w1 = w.alloc (.cells #[.int .i64 1, .int .i64 N, .int .i64 O, .int .i64 T, .slice A l.length c] 24) := ⟨_, rfl⟩
  obtain ⟨q0, hq0⟩ : ∃ q0, q0 = w.heap.size := ⟨_, rfl⟩
  have hf : Fr (fun _ => False) w w1 := by rw [hw1]; exact (Fr.refl _ w).alloc _
  have hb : Blk w1 q0 24 #[.int .i64 1, .int .i64 N, .int .i64 O, .int .i64 T, .slice A l.length c] := by rw [hw1, hq0]; exact Blk.new _ _ _
  have HW := Lib.hid hw1
  have HQ := Lib.hid hq0
  have HF := Lib.hid (And.intro hf (hs.up hf))
  obtain ⟨V, hV⟩ : ∃ V, V = quo ⟨1, N, O, T, l⟩ true X.testBit := ⟨_, rfl⟩
  rw [← hV]
  have HV := Lib.hid hV
  have b0 := hb.cell 0 rfl
  have b1 := hb.cell 1 rfl
  have b2 := hb.cell 2 rfl
  have b3 := hb.cell 3 rfl
  have b4 := hb.cell 4 rfl
  simp only [Qu.v] at HC
  clear hf hs hw1 hq0 hV
  go_enter Try.func90, Try.ntmps90
  go_upto_region 1 with (fail)
  rw [← HW.out, ← HQ.out]
  clear HW HQ
  go_wp2_with fail
  refine (HC.out w1 HF.out.2 (by omega)).mono ?_
  rintro e w2 ⟨rfl, hf2⟩
  rw [HE.out]
  have hb2 := hb.fr hf2 (fun h => h)
  have hff := HF.out.1.tr hf2
  have hs2 := HF.out.2.up hf2
  clear b0 b1 b2 b3 b4 hf2 hb HF HC
  have b0 := hb2.cell 0 rfl
  have b1 := hb2.cell 1 rfl
  have b2 := hb2.cell 2 rfl
  have b3 := hb2.cell 3 rfl
  have b4 := hb2.cell 4 rfl
  go_wp2_with fail
  go_quiet ((go_at_call 93; exact quiet_left (count_any X N hX (by omega) _)))
  go_wp2_with fail
  go_ret
  refine ⟨?_, hff.drewN _⟩
  rw [HV.out]
  unfold quo
  rw [if_pos rfl]
  show Ending.returned (.bool (decide (T ≤ cnt N X.testBit))) = _
  congr 2
  rw [decide_eq_decide]
  simp
set_option maxRecDepth 100000 in
set_option maxHeartbeats 4000000 in
theorem ris_two_false (N O T : Nat) (l : List Int) (n1 : 1 ≤ N) (n12 : N ≤ 12) (o1 : 1 ≤ O) (oN : O ≤ N) (t1 : 1 ≤ T) (tN : T ≤ N) (m : O * T = N) (s : Value) (X : Nat) (hX : X < 4294967296) (w : World) (hs : Ints w s l) (hl : l.length ≤ 1000) :
    Calls Try.prog 90 #[.agg #[.int .i64 2, .int .i64 N, .int .i64 O, .int .i64 T, s], .bool false, .int .u32 X] w fun e w' => e = .returned (.bool (quo ⟨2, N, O, T, l⟩ false X.testBit)) ∧ Fr (fun _ => False) w w' := by
  have HC := Lib.hid (rright_any ⟨2, N, O, T, l⟩ s)
  have HE := Lib.hid (Ok.two N O T l n1 n12 o1 oN t1 tN m).right
  have hs0 := hs
  obtain ⟨A, c, rfl, -⟩ := hs0
  obtain ⟨w1, hw1⟩ : ∃ w1, w1 = w.alloc (.cells #[.int .i64 2, .int .i64 N, .int .i64 O, .int .i64 T, .slice A l.length c] 24) := ⟨_, rfl⟩
  obtain ⟨q0, hq0⟩ : ∃ q0, q0 = w.heap.size := ⟨_, rfl⟩
  have hf : Fr (fun _ => False) w w1 := by rw [hw1]; exact (Fr.refl _ w).alloc _
  have hb : Blk w1 q0 24 #[.int .i64 2, .int .i64 N, .int .i64 O, .int .i64 T, .slice A l.length c] := by rw [hw1, hq0]; exact Blk.new _ _ _
  have HW := Lib.hid hw1
  have HQ := Lib.hid hq0
  have HF := Lib.hid (And.intro hf (hs.up hf))
  obtain ⟨V, hV⟩ : ∃ V, V = quo ⟨2, N, O, T, l⟩ false X.testBit := ⟨_, rfl⟩
  rw [← hV]
  have HV := Lib.hid hV
  have b0 := hb.cell 0 rfl
  have b1 := hb.cell 1 rfl
  have b2 := hb.cell 2 rfl
  have b3 := hb.cell 3 rfl
  have b4 := hb.cell 4 rfl
  simp only [Qu.v] at HC
  clear hf hs hw1 hq0 hV
  go_enter Try.func90, Try.ntmps90
  go_upto_region 1 with (fail)
  rw [← HW.out, ← HQ.out]
  clear HW HQ
  go_wp2_with fail
  refine (HC.out w1 HF.out.2 (by omega)).mono ?_
  rintro e w2 ⟨rfl, hf2⟩
  rw [HE.out]
  have hb2 := hb.fr hf2 (fun h => h)
  have hff := HF.out.1.tr hf2
  have hs2 := HF.out.2.up hf2
  clear b0 b1 b2 b3 b4 hf2 hb HF HC
  have b0 := hb2.cell 0 rfl
  have b1 := hb2.cell 1 rfl
  have b2 := hb2.cell 2 rfl
  have b3 := hb2.cell 3 rfl
  have b4 := hb2.cell 4 rfl
  go_wp2_with fail
  go_loopg [9] N (fun g x9 wr => ∃ (j : Nat), j + g = N ∧ x9 = .int .i64 j ∧ anyN j (fun j => allN N fun j' => !decide (grp false T j' = grp false T j) || X.testBit j') = false ∧ Fr (fun _ => False) w2 wr)
  case atStart => exact ⟨0, by omega, rfl, rfl, Fr.refl _ _⟩
  case round =>
    obtain ⟨j, hj, rfl, hno, hfr⟩ := hrel
    have HJ := Lib.hid (And.intro hj hno)
    have hj' : j ≤ N := by omega
    clear hj hno b0 b1 b2 b3 b4
    have hbr := hb2.fr hfr (fun h => h)
    have hsr := hs2.up hfr
    have b0 := hbr.cell 0 rfl
    have b1 := hbr.cell 1 rfl
    have b2 := hbr.cell 2 rfl
    have b3 := hbr.cell 3 rfl
    have b4 := hbr.cell 4 rfl
    by_cases hlt : j < N
    · go_wp2_with fail
      refine (rwhole_any 2 O T N l false _ X j hX n12 hlt (grp false T) (fun i hi w hs => rgroup_two N O T i l false _ w hs t1 (by omega) (by omega)) _ hsr).mono ?_
      rintro e w4 ⟨rfl, hf4⟩
      have hfr4 := hfr.tr hf4
      obtain ⟨Z, hZ⟩ : ∃ Z, Z = allN N (fun j' => !decide (grp false T j' = grp false T j) || X.testBit j') := ⟨_, rfl⟩
      rw [← hZ]
      have HZ := Lib.hid hZ
      clear b0 b1 b2 b3 b4 hf4 hZ
      cases Z with
      | true =>
        go_wp2_with fail
        go_ret
        refine ⟨?_, hff.tr hfr4⟩
        rw [HV.out, ← two_eq _ O T l false X.testBit t1 oN tN m]
        rw [anyN_iff.2 ⟨j, hlt, HZ.out.symm⟩]
        rfl
      | false =>
        go_wp2_with fail
        go_roundg (N - (j + 1))
        case measure => have := HJ.out; omega
        case rel => exact ⟨j + 1, by have := HJ.out; omega, by go_num, by simp only [anyN]; rw [HJ.out.2, ← HZ.out]; rfl, hfr4⟩
    · obtain rfl : j = N := by omega
      go_wp2_with fail
      go_ret
      refine ⟨?_, hff.tr hfr⟩
      rw [HV.out, ← two_eq _ O T l false X.testBit t1 oN tN m, HJ.out.2]
      rfl
set_option maxRecDepth 100000 in
set_option maxHeartbeats 4000000 in
theorem ris_two_true (N O T : Nat) (l : List Int) (n1 : 1 ≤ N) (n12 : N ≤ 12) (o1 : 1 ≤ O) (oN : O ≤ N) (t1 : 1 ≤ T) (tN : T ≤ N) (m : O * T = N) (s : Value) (X : Nat) (hX : X < 4294967296) (w : World) (hs : Ints w s l) (hl : l.length ≤ 1000) :
    Calls Try.prog 90 #[.agg #[.int .i64 2, .int .i64 N, .int .i64 O, .int .i64 T, s], .bool true, .int .u32 X] w fun e w' => e = .returned (.bool (quo ⟨2, N, O, T, l⟩ true X.testBit)) ∧ Fr (fun _ => False) w w' := by
  have HC := Lib.hid (rright_any ⟨2, N, O, T, l⟩ s)
  have HE := Lib.hid (Ok.two N O T l n1 n12 o1 oN t1 tN m).right
  have hs0 := hs
  obtain ⟨A, c, rfl, -⟩ := hs0
  obtain ⟨w1, hw1⟩ : ∃ w1, w1 = w.alloc (.cells #[.int .i64 2, .int .i64 N, .int .i64 O, .int .i64 T, .slice A l.length c] 24) := ⟨_, rfl⟩
  obtain ⟨q0, hq0⟩ : ∃ q0, q0 = w.heap.size := ⟨_, rfl⟩
  have hf : Fr (fun _ => False) w w1 := by rw [hw1]; exact (Fr.refl _ w).alloc _
  have hb : Blk w1 q0 24 #[.int .i64 2, .int .i64 N, .int .i64 O, .int .i64 T, .slice A l.length c] := by rw [hw1, hq0]; exact Blk.new _ _ _
  have HW := Lib.hid hw1
  have HQ := Lib.hid hq0
  have HF := Lib.hid (And.intro hf (hs.up hf))
  obtain ⟨V, hV⟩ : ∃ V, V = quo ⟨2, N, O, T, l⟩ true X.testBit := ⟨_, rfl⟩
  rw [← hV]
  have HV := Lib.hid hV
  have b0 := hb.cell 0 rfl
  have b1 := hb.cell 1 rfl
  have b2 := hb.cell 2 rfl
  have b3 := hb.cell 3 rfl
  have b4 := hb.cell 4 rfl
  simp only [Qu.v] at HC
  clear hf hs hw1 hq0 hV
  go_enter Try.func90, Try.ntmps90
  go_upto_region 1 with (fail)
  rw [← HW.out, ← HQ.out]
  clear HW HQ
  go_wp2_with fail
  refine (HC.out w1 HF.out.2 (by omega)).mono ?_
  rintro e w2 ⟨rfl, hf2⟩
  rw [HE.out]
  have hb2 := hb.fr hf2 (fun h => h)
  have hff := HF.out.1.tr hf2
  have hs2 := HF.out.2.up hf2
  clear b0 b1 b2 b3 b4 hf2 hb HF HC
  have b0 := hb2.cell 0 rfl
  have b1 := hb2.cell 1 rfl
  have b2 := hb2.cell 2 rfl
  have b3 := hb2.cell 3 rfl
  have b4 := hb2.cell 4 rfl
  go_wp2_with fail
  go_loopg [9] N (fun g x9 wr => ∃ (j : Nat), j + g = N ∧ x9 = .int .i64 j ∧ anyN j (fun j => allN N fun j' => !decide (grp true T j' = grp true T j) || X.testBit j') = false ∧ Fr (fun _ => False) w2 wr)
  case atStart => exact ⟨0, by omega, rfl, rfl, Fr.refl _ _⟩
  case round =>
    obtain ⟨j, hj, rfl, hno, hfr⟩ := hrel
    have HJ := Lib.hid (And.intro hj hno)
    have hj' : j ≤ N := by omega
    clear hj hno b0 b1 b2 b3 b4
    have hbr := hb2.fr hfr (fun h => h)
    have hsr := hs2.up hfr
    have b0 := hbr.cell 0 rfl
    have b1 := hbr.cell 1 rfl
    have b2 := hbr.cell 2 rfl
    have b3 := hbr.cell 3 rfl
    have b4 := hbr.cell 4 rfl
    by_cases hlt : j < N
    · go_wp2_with fail
      refine (rwhole_any 2 O T N l true _ X j hX n12 hlt (grp true T) (fun i hi w hs => rgroup_two N O T i l true _ w hs t1 (by omega) (by omega)) _ hsr).mono ?_
      rintro e w4 ⟨rfl, hf4⟩
      have hfr4 := hfr.tr hf4
      obtain ⟨Z, hZ⟩ : ∃ Z, Z = allN N (fun j' => !decide (grp true T j' = grp true T j) || X.testBit j') := ⟨_, rfl⟩
      rw [← hZ]
      have HZ := Lib.hid hZ
      clear b0 b1 b2 b3 b4 hf4 hZ
      cases Z with
      | true =>
        go_wp2_with fail
        go_ret
        refine ⟨?_, hff.tr hfr4⟩
        rw [HV.out, ← two_eq _ O T l true X.testBit t1 oN tN m]
        rw [anyN_iff.2 ⟨j, hlt, HZ.out.symm⟩]
        rfl
      | false =>
        go_wp2_with fail
        go_roundg (N - (j + 1))
        case measure => have := HJ.out; omega
        case rel => exact ⟨j + 1, by have := HJ.out; omega, by go_num, by simp only [anyN]; rw [HJ.out.2, ← HZ.out]; rfl, hfr4⟩
    · obtain rfl : j = N := by omega
      go_wp2_with fail
      go_ret
      refine ⟨?_, hff.tr hfr⟩
      rw [HV.out, ← two_eq _ O T l true X.testBit t1 oN tN m, HJ.out.2]
      rfl
set_option maxRecDepth 100000 in
set_option maxHeartbeats 4000000 in
theorem ris_three_true (o t : Int) (l : List Int) (n1 : 1 ≤ l.length) (n12 : l.length ≤ 12) (b : l.any badS = false) (s : Value) (X : Nat) (hX : X < 4294967296) (w : World) (hs : Ints w s l) (hl : l.length ≤ 1000) :
    Calls Try.prog 90 #[.agg #[.int .i64 3, .int .i64 l.length, .int .i64 o, .int .i64 t, s], .bool true, .int .u32 X] w fun e w' => e = .returned (.bool (quo ⟨3, l.length, o, t, l⟩ true X.testBit)) ∧ Fr (fun _ => False) w w' := by
  have HC := Lib.hid (rright_any ⟨3, l.length, o, t, l⟩ s)
  have HE := Lib.hid (Ok.three o t l n1 n12 b).right
  have hs0 := hs
  obtain ⟨A, c, rfl, -⟩ := hs0
  obtain ⟨w1, hw1⟩ : ∃ w1, w1 = w.alloc (.cells #[.int .i64 3, .int .i64 l.length, .int .i64 o, .int .i64 t, .slice A l.length c] 24) := ⟨_, rfl⟩
  obtain ⟨q0, hq0⟩ : ∃ q0, q0 = w.heap.size := ⟨_, rfl⟩
  have hf : Fr (fun _ => False) w w1 := by rw [hw1]; exact (Fr.refl _ w).alloc _
  have hb : Blk w1 q0 24 #[.int .i64 3, .int .i64 l.length, .int .i64 o, .int .i64 t, .slice A l.length c] := by rw [hw1, hq0]; exact Blk.new _ _ _
  have HW := Lib.hid hw1
  have HQ := Lib.hid hq0
  have HF := Lib.hid (And.intro hf (hs.up hf))
  obtain ⟨V, hV⟩ : ∃ V, V = quo ⟨3, l.length, o, t, l⟩ true X.testBit := ⟨_, rfl⟩
  rw [← hV]
  have HV := Lib.hid hV
  have b0 := hb.cell 0 rfl
  have b1 := hb.cell 1 rfl
  have b2 := hb.cell 2 rfl
  have b3 := hb.cell 3 rfl
  have b4 := hb.cell 4 rfl
  simp only [Qu.v] at HC
  clear hf hs hw1 hq0 hV
  go_enter Try.func90, Try.ntmps90
  go_upto_region 1 with (fail)
  rw [← HW.out, ← HQ.out]
  clear HW HQ
  go_wp2_with fail
  refine (HC.out w1 HF.out.2 (by omega)).mono ?_
  rintro e w2 ⟨rfl, hf2⟩
  rw [HE.out]
  have hb2 := hb.fr hf2 (fun h => h)
  have hff := HF.out.1.tr hf2
  have hs2 := HF.out.2.up hf2
  clear b0 b1 b2 b3 b4 hf2 hb HF HC
  have b0 := hb2.cell 0 rfl
  have b1 := hb2.cell 1 rfl
  have b2 := hb2.cell 2 rfl
  have b3 := hb2.cell 3 rfl
  have b4 := hb2.cell 4 rfl
  go_wp2_with fail
  go_loopg [9] l.length (fun g x9 wr => ∃ (j : Nat), j + g = l.length ∧ x9 = .int .i64 j ∧ anyN j (fun j => allN l.length fun j' => !decide (l.getD j' 0 = l.getD j 0) || X.testBit j') = false ∧ Fr (fun _ => False) w2 wr)
  case atStart => exact ⟨0, by omega, rfl, rfl, Fr.refl _ _⟩
  case round =>
    obtain ⟨j, hj, rfl, hno, hfr⟩ := hrel
    have HJ := Lib.hid (And.intro hj hno)
    have hj' : j ≤ l.length := by omega
    clear hj hno b0 b1 b2 b3 b4
    have hbr := hb2.fr hfr (fun h => h)
    have hsr := hs2.up hfr
    have b0 := hbr.cell 0 rfl
    have b1 := hbr.cell 1 rfl
    have b2 := hbr.cell 2 rfl
    have b3 := hbr.cell 3 rfl
    have b4 := hbr.cell 4 rfl
    by_cases hlt : j < l.length
    · go_wp2_with fail
      refine (rwhole_any 3 o t l.length l true _ X j hX n12 hlt (fun i => l.getD i 0) (fun i hi w hs => rgroup_three l.length o t i (l.getD i 0) l true _ w hs hl (by rw [List.getD_eq_getElem?_getD, List.getElem?_eq_getElem hi]; rfl)) _ hsr).mono ?_
      rintro e w4 ⟨rfl, hf4⟩
      have hfr4 := hfr.tr hf4
      obtain ⟨Z, hZ⟩ : ∃ Z, Z = allN l.length (fun j' => !decide (l.getD j' 0 = l.getD j 0) || X.testBit j') := ⟨_, rfl⟩
      rw [← hZ]
      have HZ := Lib.hid hZ
      clear b0 b1 b2 b3 b4 hf4 hZ
      cases Z with
      | true =>
        go_wp2_with fail
        go_ret
        refine ⟨?_, hff.tr hfr4⟩
        rw [HV.out, ← three_eq o t l X.testBit]
        rw [anyN_iff.2 ⟨j, hlt, HZ.out.symm⟩]
        rfl
      | false =>
        go_wp2_with fail
        go_roundg (l.length - (j + 1))
        case measure => have := HJ.out; omega
        case rel => exact ⟨j + 1, by have := HJ.out; omega, by go_num, by simp only [anyN]; rw [HJ.out.2, ← HZ.out]; rfl, hfr4⟩
    · obtain rfl : j = l.length := by omega
      go_wp2_with fail
      go_ret
      refine ⟨?_, hff.tr hfr⟩
      rw [HV.out, ← three_eq o t l X.testBit, HJ.out.2]
      rfl
theorem three_eq2 (o t : Int) (l : List Int) (p : Nat → Bool) : (allN l.length fun j => anyN l.length fun j' => decide (l[j']? = l[j]?) && p j') = quo ⟨3, l.length, o, t, l⟩ false p := by
  unfold quo
  rw [if_neg (by simp), if_neg (by simp)]
  rfl
set_option maxRecDepth 100000 in
set_option maxHeartbeats 4000000 in
theorem ris_three_false (o t : Int) (l : List Int) (n1 : 1 ≤ l.length) (n12 : l.length ≤ 12) (b : l.any badS = false) (s : Value) (X : Nat) (hX : X < 4294967296) (w : World) (hs : Ints w s l) (hl : l.length ≤ 1000) :
    Calls Try.prog 90 #[.agg #[.int .i64 3, .int .i64 l.length, .int .i64 o, .int .i64 t, s], .bool false, .int .u32 X] w fun e w' => e = .returned (.bool (quo ⟨3, l.length, o, t, l⟩ false X.testBit)) ∧ Fr (fun _ => False) w w' := by
  have HC := Lib.hid (rright_any ⟨3, l.length, o, t, l⟩ s)
  have HE := Lib.hid (Ok.three o t l n1 n12 b).right
  have hs0 := hs
  obtain ⟨A, c, rfl, -⟩ := hs0
  obtain ⟨w1, hw1⟩ : ∃ w1, w1 = w.alloc (.cells #[.int .i64 3, .int .i64 l.length, .int .i64 o, .int .i64 t, .slice A l.length c] 24) := ⟨_, rfl⟩
  obtain ⟨q0, hq0⟩ : ∃ q0, q0 = w.heap.size := ⟨_, rfl⟩
  have hf : Fr (fun _ => False) w w1 := by rw [hw1]; exact (Fr.refl _ w).alloc _
  have hb : Blk w1 q0 24 #[.int .i64 3, .int .i64 l.length, .int .i64 o, .int .i64 t, .slice A l.length c] := by rw [hw1, hq0]; exact Blk.new _ _ _
  have HW := Lib.hid hw1
  have HQ := Lib.hid hq0
  have HF := Lib.hid (And.intro hf (hs.up hf))
  obtain ⟨V, hV⟩ : ∃ V, V = quo ⟨3, l.length, o, t, l⟩ false X.testBit := ⟨_, rfl⟩
  rw [← hV]
  have HV := Lib.hid hV
  have b0 := hb.cell 0 rfl
  have b1 := hb.cell 1 rfl
  have b2 := hb.cell 2 rfl
  have b3 := hb.cell 3 rfl
  have b4 := hb.cell 4 rfl
  simp only [Qu.v] at HC
  clear hf hs hw1 hq0 hV
  go_enter Try.func90, Try.ntmps90
  go_upto_region 1 with (fail)
  rw [← HW.out, ← HQ.out]
  clear HW HQ
  go_wp2_with fail
  refine (HC.out w1 HF.out.2 (by omega)).mono ?_
  rintro e w2 ⟨rfl, hf2⟩
  rw [HE.out]
  have hb2 := hb.fr hf2 (fun h => h)
  have hff := HF.out.1.tr hf2
  have hs2 := HF.out.2.up hf2
  clear b0 b1 b2 b3 b4 hf2 hb HF HC
  have b0 := hb2.cell 0 rfl
  have b1 := hb2.cell 1 rfl
  have b2 := hb2.cell 2 rfl
  have b3 := hb2.cell 3 rfl
  have b4 := hb2.cell 4 rfl
  go_wp2_with fail
  go_loopg [9] l.length (fun g x9 wr => ∃ (j : Nat), j + g = l.length ∧ x9 = .int .i64 j ∧ allN j (fun j => anyN l.length fun j' => decide (l[j']? = l[j]?) && X.testBit j') = true ∧ Fr (fun _ => False) w2 wr)
  case atStart => exact ⟨0, by omega, rfl, rfl, Fr.refl _ _⟩
  case round =>
    obtain ⟨j, hj, rfl, hno, hfr⟩ := hrel
    have HJ := Lib.hid (And.intro hj hno)
    have hj' : j ≤ l.length := by omega
    clear hj hno b0 b1 b2 b3 b4
    have hbr := hb2.fr hfr (fun h => h)
    have hsr := hs2.up hfr
    have b0 := hbr.cell 0 rfl
    have b1 := hbr.cell 1 rfl
    have b2 := hbr.cell 2 rfl
    have b3 := hbr.cell 3 rfl
    have b4 := hbr.cell 4 rfl
    by_cases hlt : j < l.length
    · go_wp2_with fail
      refine (rsome_any 3 l.length o t l _ X j hX n12 rfl hlt _ hsr).mono ?_
      rintro e w4 ⟨rfl, hf4⟩
      have hfr4 := hfr.tr hf4
      obtain ⟨Z, hZ⟩ : ∃ Z, Z = anyN l.length (fun j' => decide (l[j']? = l[j]?) && X.testBit j') := ⟨_, rfl⟩
      rw [← hZ]
      have HZ := Lib.hid hZ
      clear b0 b1 b2 b3 b4 hf4 hZ
      cases Z with
      | false =>
        go_wp2_with fail
        go_ret
        refine ⟨?_, hff.tr hfr4⟩
        rw [HV.out, ← three_eq2 o t l X.testBit]
        have : (allN l.length fun j => anyN l.length fun j' => decide (l[j']? = l[j]?) && X.testBit j') = false := by
          rw [Bool.eq_false_iff]
          intro h
          have h1 := allN_iff.1 h j hlt
          rw [← HZ.out] at h1
          cases h1
        rw [this]
        rfl
      | true =>
        go_wp2_with fail
        go_roundg (l.length - (j + 1))
        case measure => have := HJ.out; omega
        case rel => exact ⟨j + 1, by have := HJ.out; omega, by go_num, by simp only [allN]; rw [HJ.out.2, ← HZ.out]; rfl, hfr4⟩
    · obtain rfl : j = l.length := by omega
      go_wp2_with fail
      go_ret
      refine ⟨?_, hff.tr hfr⟩
      rw [HV.out, ← three_eq2 o t l X.testBit, HJ.out.2]
      rfl
theorem ris_any (q : Qu) (sec : Bool) (s : Value) (X : Nat) (hX : X < 4294967296) (w : World) (hs : Ints w s q.s) (hl : q.s.length ≤ 1000) :
    Calls Try.prog 90 #[q.v s, .bool sec, .int .u32 X] w fun e w' => e = .returned (.bool (isQ q sec X.testBit)) ∧ Fr (fun _ => False) w w' := by
  by_cases h : rightE q = 0
  · have ho := ok_of h
    have e : isQ q sec X.testBit = quo q sec X.testBit := by
      unfold isQ okQ
      rw [h]
      exact Bool.true_and _
    rw [e]
    cases ho with
    | one N O T l n1 n12 o1 oN t1 tN m =>
      cases sec
      · exact ris_one_false N O T l n1 n12 o1 oN t1 tN m s X hX w hs hl
      · exact ris_one_true N O T l n1 n12 o1 oN t1 tN m s X hX w hs hl
    | two N O T l n1 n12 o1 oN t1 tN m =>
      cases sec
      · exact ris_two_false N O T l n1 n12 o1 oN t1 tN m s X hX w hs hl
      · exact ris_two_true N O T l n1 n12 o1 oN t1 tN m s X hX w hs hl
    | three o t l n1 n12 b =>
      cases sec
      · exact ris_three_false o t l n1 n12 b s X hX w hs hl
      · exact ris_three_true o t l n1 n12 b s X hX w hs hl
  · have e : isQ q sec X.testBit = false := by
      unfold isQ okQ
      rw [show (rightE q == 0) = false by simp [h]]
      rfl
    rw [e]
    exact ris_bad q sec s X w hs hl h
end Go.Proofs.Ytkpfgoalohbfeaa

