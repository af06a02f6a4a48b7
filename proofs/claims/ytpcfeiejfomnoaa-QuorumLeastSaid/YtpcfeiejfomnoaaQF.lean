/- Reach. -/
import Derived.Test.YtpcfeiejfomnoaaQE
namespace Go.Proofs.Ytpcfeiejfomnoaa
open Go.RowKit

/-- The nodes that are not in a set. -/
def nots (p : Nat → Bool) (i : Nat) : Bool := !p i
/-- Whichever m nodes are gone, do quorums of both phases stay? -/
def reachB (q : Qu) (m : Nat) : Bool := allN (2 ^ q.n.toNat) fun x => !decide (cnt q.n.toNat x.testBit = m) || (isQ q false (nots x.testBit) && isQ q true (nots x.testBit))
def reachE (q : Qu) (more : Int) : Int := if rightE q = 0 then (if more < 0 then 2 else if reachB q (min more q.n).toNat then 0 else 4) else rightE q
theorem compl_bit (x i : Nat) (hx : x < 4096) (hi : i < 12) : (4294967295 - x).testBit i = !x.testBit i := by
  rw [show 4294967295 - x = 2 ^ 32 - (x + 1) by omega, Nat.testBit_two_pow_sub_succ (by omega)]
  simp [show i < 32 by omega]
theorem xor_max (x : Nat) (hx : x < 4294967296) : bits .xor .u32 IntKind.u32.max (x : Int) = ((4294967295 - x : Nat) : Int) := by
  have h := u32_xor_nat 4294967295 x (by omega) hx
  have e : 4294967295 ^^^ x = 4294967295 - x := by
    apply Nat.eq_of_testBit_eq
    intro i
    rw [Nat.testBit_xor, show (4294967295 : Nat) = 2 ^ 32 - 1 from rfl, Nat.testBit_two_pow_sub_one, show 2 ^ 32 - 1 - x = 2 ^ 32 - (x + 1) by omega, Nat.testBit_two_pow_sub_succ (by omega)]
    by_cases hi : i < 32
    · simp [hi]
    · rw [Nat.testBit_lt_two_pow (Nat.lt_of_lt_of_le hx (by have : (2 : Nat) ^ 32 ≤ 2 ^ i := Nat.pow_le_pow_right (by omega) (by omega); simpa using this))]
      simp [hi]
  rw [e] at h
  exact h
theorem cnt_small (N x : Nat) (hN : N ≤ 12) (hx : x < 2 ^ N) : cnt 12 x.testBit = cnt N x.testBit := by
  have h := cnt_cut N x hN
  rw [Nat.mod_eq_of_lt hx] at h
  exact h

set_option maxRecDepth 100000 in
set_option maxHeartbeats 4000000 in
theorem reach_any (q : Qu) (more : Int) (s : Value) (w : World) (hs : Ints w s q.s) (hl : q.s.length ≤ 1000) :
    Calls Try.prog 13 #[q.v s, .int .i64 more] w fun e w' => e = .returned (.int .i64 (reachE q more)) ∧ Fr (fun _ => False) w w' := by
  have HC := Lib.hid (right_any q s)
  by_cases h : rightE q = 0
  · have ho := ok_of h
    obtain ⟨n1, n12, hn⟩ := ho.n
    have HI := Lib.hid fun (Y : Nat) (hY : Y < 4294967296) => can_any q s Y hY
    have hcg : ∀ x : Nat, x < 4096 → (isQ q false (4294967295 - x).testBit = isQ q false (nots x.testBit)) ∧ (isQ q true (4294967295 - x).testBit = isQ q true (nots x.testBit)) := fun x hx =>
      ⟨isQ_congr fun i hi => compl_bit x i hx (by omega), isQ_congr fun i hi => compl_bit x i hx (by omega)⟩
    have HG := Lib.hid hcg
    have hR : reachE q more = if more < 0 then 2 else if reachB q (min more q.n).toNat then 0 else 4 := by unfold reachE; rw [if_pos h]
    rw [hR]
    obtain ⟨k, n, o, t, l⟩ := q
    simp only at hn n1 n12 hl HI HG ⊢
    obtain ⟨N, hNe⟩ : ∃ N, N = n.toNat := ⟨_, rfl⟩
    rw [← hNe] at hn n1 n12
    subst hn
    clear hNe hR ho hcg
    have hs0 := hs
    obtain ⟨A, c, rfl, -⟩ := hs0
    obtain ⟨w1, hw1⟩ : ∃ w1, w1 = w.alloc (.cells #[.int .i64 k, .int .i64 N, .int .i64 o, .int .i64 t, .slice A l.length c] 24) := ⟨_, rfl⟩
    obtain ⟨q0, hq0⟩ : ∃ q0, q0 = w.heap.size := ⟨_, rfl⟩
    have hf : Fr (fun _ => False) w w1 := by rw [hw1]; exact (Fr.refl _ w).alloc _
    have hb : Blk w1 q0 24 #[.int .i64 k, .int .i64 N, .int .i64 o, .int .i64 t, .slice A l.length c] := by rw [hw1, hq0]; exact Blk.new _ _ _
    have hs1 := hs.up hf
    have HF := Lib.hid hf
    have HW := Lib.hid hw1
    have HQ := Lib.hid hq0
    have HE := Lib.hid h
    have b0 := hb.cell 0 rfl
    have b1 := hb.cell 1 rfl
    have b2 := hb.cell 2 rfl
    have b3 := hb.cell 3 rfl
    have b4 := hb.cell 4 rfl
    obtain ⟨K, hK⟩ : ∃ K : Nat, K = 2 ^ N := ⟨_, rfl⟩
    have hp2 := pow_int n12
    rw [← hK] at hp2
    have hK2 : K ≤ 4096 := by rw [hK]; exact (Nat.pow_le_pow_right (by omega) n12 : (2 : Nat) ^ N ≤ 2 ^ 12)
    have HK := Lib.hid hK
    simp only [Qu.v] at HC HI ⊢
    clear hf hs hw1 hq0 h hK
    by_cases hm : more < 0
    · rw [if_pos hm]
      go_enter Try.func13, Try.ntmps13
      go_upto_region 1 with (fail)
      rw [← HW.out, ← HQ.out]
      clear HW HQ
      go_wp2_with fail
      refine (HC.out w1 hs1 hl).mono ?_
      rintro e w2 ⟨rfl, hf2⟩
      rw [HE.out]
      clear b0 b1 b2 b3 b4
      go_wp2_with fail
      go_ret
      exact ⟨rfl, HF.out.tr hf2⟩
    rw [if_neg hm]
    by_cases hmn : more < (N : Int)
    · obtain ⟨R, rfl⟩ := Int.eq_ofNat_of_zero_le (show 0 ≤ more by omega)
      have hR2 : (min (R : Int) (N : Int)).toNat = R := by omega
      rw [hR2]
      have hRN : R ≤ N := by omega
      clear hR2
      obtain ⟨Z, hZ⟩ : ∃ Z : Int, Z = if reachB ⟨k, N, o, t, l⟩ R = true then 0 else 4 := ⟨_, rfl⟩
      rw [← hZ]
      have HZ := Lib.hid hZ
      clear hZ
      go_enter Try.func13, Try.ntmps13
      go_upto_region 1 with (fail)
      rw [← HW.out, ← HQ.out]
      clear HW HQ
      go_wp2_with fail
      refine (HC.out w1 hs1 hl).mono ?_
      rintro e w2 ⟨rfl, hf2⟩
      rw [HE.out]
      have hb2 := hb.fr hf2 (fun h => h)
      have hff := HF.out.tr hf2
      have hs2 := hs1.up hf2
      clear b0 b1 b2 b3 b4 hf2 hb HF HC hs1
      have b1 := hb2.cell 1 rfl
      go_wp2_with fail
      rw [hp2]
      go_loopg [21] K (fun g x21 wr => ∃ (m : Nat), m + g = K ∧ x21 = .int .u32 (m : Int) ∧ allN m (fun x => !decide (cnt N x.testBit = R) || (isQ ⟨k, N, o, t, l⟩ false (nots x.testBit) && isQ ⟨k, N, o, t, l⟩ true (nots x.testBit))) = true ∧ Fr (fun _ => False) w2 wr)
      case atStart => exact ⟨0, by omega, rfl, rfl, Fr.refl _ _⟩
      case round =>
        clear b1
        obtain ⟨m, hm2, rfl, hno, hfr⟩ := hrel
        have HJ := Lib.hid (And.intro hm2 hno)
        have hm' : m ≤ K := by omega
        clear hm2 hno
        by_cases hlt : m < K
        · have hcs := cnt_small N m n12 (by rw [← HK.out]; exact hlt)
          have HCS := Lib.hid hcs
          have hcn := cnt_le N m.testBit
          clear hcs
          go_wp2_with fail
          refine (ones_any m (by omega) wr).mono ?_
          rintro e w4 ⟨rfl, hd⟩
          rw [HCS.out]
          have hfr4 : Fr (fun _ => False) w2 w4 := by obtain ⟨d, rfl⟩ := hd; exact hfr.drewN d
          have hbr := hb2.fr hfr4 (fun h => h)
          have hsr := hs2.up hfr4
          have b0 := hbr.cell 0 rfl
          have b1 := hbr.cell 1 rfl
          have b2 := hbr.cell 2 rfl
          have b3 := hbr.cell 3 rfl
          have b4 := hbr.cell 4 rfl
          clear hd hfr
          by_cases hc : cnt N m.testBit = R
          · have hc' : ((cnt N m.testBit : Nat) : Int) = (R : Int) := by omega
            have hc2 : (((cnt N m.testBit : Nat) : Int) == (R : Int)) = true := by simp [hc]
            have HCC := Lib.hid hc
            obtain ⟨C, hC, hxor⟩ : ∃ C : Nat, C = 4294967295 - m ∧ bits .xor .u32 IntKind.u32.max (m : Int) = (C : Int) := ⟨_, rfl, xor_max m (by omega)⟩
            have hCl : C < 4294967296 := by omega
            have hCg := HG.out m (by omega)
            rw [← hC] at hCg
            have HCG := Lib.hid hCg
            clear hc hc' hC hCg
            go_wp2_with fail
            refine (HI.out C hCl w4 hsr hl).mono ?_
            rintro e w5 ⟨rfl, hf5⟩
            rw [HCG.out.1, HCG.out.2]
            have hfr5 := hfr4.tr hf5
            clear b0 b1 b2 b3 b4 hf5
            cases hcan : (isQ ⟨k, N, o, t, l⟩ false (nots m.testBit) && isQ ⟨k, N, o, t, l⟩ true (nots m.testBit)) with
            | true =>
              have HCN := Lib.hid hcan
              clear hcan
              go_wp2_with fail
              go_roundg (K - (m + 1))
              case measure => have := HJ.out; omega
              case rel => exact ⟨m + 1, by have := HJ.out; omega, by go_num, by simp only [allN]; rw [HJ.out.2, HCN.out]; simp, hfr5⟩
            | false =>
              have HCN := Lib.hid hcan
              clear hcan
              go_wp2_with fail
              go_ret
              refine ⟨?_, hff.tr hfr5⟩
              have hB : reachB ⟨k, N, o, t, l⟩ R = false := by
                rw [Bool.eq_false_iff]
                intro h
                unfold reachB at h
                simp only [Int.toNat_natCast] at h
                rw [← HK.out] at h
                have := allN_iff.1 h m hlt
                rw [HCN.out, decide_eq_true HCC.out] at this
                cases this
              rw [HZ.out, hB]
              rfl
          · have hc2 : (((cnt N m.testBit : Nat) : Int) == (R : Int)) = false := by simp; omega
            have HCC := Lib.hid hc
            clear hc b0 b1 b2 b3 b4
            go_wp2_with fail
            go_roundg (K - (m + 1))
            case measure => have := HJ.out; omega
            case rel => exact ⟨m + 1, by have := HJ.out; omega, by go_num, by simp only [allN]; rw [HJ.out.2, decide_eq_false HCC.out]; rfl, hfr4⟩
        · obtain rfl : m = K := by omega
          have hB : reachB ⟨k, N, o, t, l⟩ R = true := by
            unfold reachB
            simp only [Int.toNat_natCast]
            rw [← HK.out]
            exact HJ.out.2
          have HB := Lib.hid hB
          clear hB
          go_wp2_with fail
          go_ret
          refine ⟨?_, hff.tr hfr⟩
          rw [HZ.out, HB.out]
          rfl
    by_cases hmn2 : more = (N : Int)
    · subst hmn2
      have hR2 : (min (N : Int) (N : Int)).toNat = N := by omega
      rw [hR2]
      clear hR2 hmn
      obtain ⟨Z, hZ⟩ : ∃ Z : Int, Z = if reachB ⟨k, N, o, t, l⟩ N = true then 0 else 4 := ⟨_, rfl⟩
      rw [← hZ]
      have HZ := Lib.hid hZ
      clear hZ
      go_enter Try.func13, Try.ntmps13
      go_upto_region 1 with (fail)
      rw [← HW.out, ← HQ.out]
      clear HW HQ
      go_wp2_with fail
      refine (HC.out w1 hs1 hl).mono ?_
      rintro e w2 ⟨rfl, hf2⟩
      rw [HE.out]
      have hb2 := hb.fr hf2 (fun h => h)
      have hff := HF.out.tr hf2
      have hs2 := hs1.up hf2
      clear b0 b1 b2 b3 b4 hf2 hb HF HC hs1
      have b1 := hb2.cell 1 rfl
      go_wp2_with fail
      rw [hp2]
      go_loopg [21] K (fun g x21 wr => ∃ (m : Nat), m + g = K ∧ x21 = .int .u32 (m : Int) ∧ allN m (fun x => !decide (cnt N x.testBit = N) || (isQ ⟨k, N, o, t, l⟩ false (nots x.testBit) && isQ ⟨k, N, o, t, l⟩ true (nots x.testBit))) = true ∧ Fr (fun _ => False) w2 wr)
      case atStart => exact ⟨0, by omega, rfl, rfl, Fr.refl _ _⟩
      case round =>
        clear b1
        obtain ⟨m, hm2, rfl, hno, hfr⟩ := hrel
        have HJ := Lib.hid (And.intro hm2 hno)
        have hm' : m ≤ K := by omega
        clear hm2 hno
        by_cases hlt : m < K
        · have hcs := cnt_small N m n12 (by rw [← HK.out]; exact hlt)
          have HCS := Lib.hid hcs
          have hcn := cnt_le N m.testBit
          clear hcs
          go_wp2_with fail
          refine (ones_any m (by omega) wr).mono ?_
          rintro e w4 ⟨rfl, hd⟩
          rw [HCS.out]
          have hfr4 : Fr (fun _ => False) w2 w4 := by obtain ⟨d, rfl⟩ := hd; exact hfr.drewN d
          have hbr := hb2.fr hfr4 (fun h => h)
          have hsr := hs2.up hfr4
          have b0 := hbr.cell 0 rfl
          have b1 := hbr.cell 1 rfl
          have b2 := hbr.cell 2 rfl
          have b3 := hbr.cell 3 rfl
          have b4 := hbr.cell 4 rfl
          clear hd hfr
          by_cases hc : cnt N m.testBit = N
          · have hc' : ((cnt N m.testBit : Nat) : Int) = (N : Int) := by omega
            have hc2 : (((cnt N m.testBit : Nat) : Int) == (N : Int)) = true := by simp [hc]
            have HCC := Lib.hid hc
            obtain ⟨C, hC, hxor⟩ : ∃ C : Nat, C = 4294967295 - m ∧ bits .xor .u32 IntKind.u32.max (m : Int) = (C : Int) := ⟨_, rfl, xor_max m (by omega)⟩
            have hCl : C < 4294967296 := by omega
            have hCg := HG.out m (by omega)
            rw [← hC] at hCg
            have HCG := Lib.hid hCg
            clear hc hc' hC hCg
            go_wp2_with fail
            refine (HI.out C hCl w4 hsr hl).mono ?_
            rintro e w5 ⟨rfl, hf5⟩
            rw [HCG.out.1, HCG.out.2]
            have hfr5 := hfr4.tr hf5
            clear b0 b1 b2 b3 b4 hf5
            cases hcan : (isQ ⟨k, N, o, t, l⟩ false (nots m.testBit) && isQ ⟨k, N, o, t, l⟩ true (nots m.testBit)) with
            | true =>
              have HCN := Lib.hid hcan
              clear hcan
              go_wp2_with fail
              go_roundg (K - (m + 1))
              case measure => have := HJ.out; omega
              case rel => exact ⟨m + 1, by have := HJ.out; omega, by go_num, by simp only [allN]; rw [HJ.out.2, HCN.out]; simp, hfr5⟩
            | false =>
              have HCN := Lib.hid hcan
              clear hcan
              go_wp2_with fail
              go_ret
              refine ⟨?_, hff.tr hfr5⟩
              have hB : reachB ⟨k, N, o, t, l⟩ N = false := by
                rw [Bool.eq_false_iff]
                intro h
                unfold reachB at h
                simp only [Int.toNat_natCast] at h
                rw [← HK.out] at h
                have := allN_iff.1 h m hlt
                rw [HCN.out, decide_eq_true HCC.out] at this
                cases this
              rw [HZ.out, hB]
              rfl
          · have hc2 : (((cnt N m.testBit : Nat) : Int) == (N : Int)) = false := by simp; omega
            have HCC := Lib.hid hc
            clear hc b0 b1 b2 b3 b4
            go_wp2_with fail
            go_roundg (K - (m + 1))
            case measure => have := HJ.out; omega
            case rel => exact ⟨m + 1, by have := HJ.out; omega, by go_num, by simp only [allN]; rw [HJ.out.2, decide_eq_false HCC.out]; rfl, hfr4⟩
        · obtain rfl : m = K := by omega
          have hB : reachB ⟨k, N, o, t, l⟩ N = true := by
            unfold reachB
            simp only [Int.toNat_natCast]
            rw [← HK.out]
            exact HJ.out.2
          have HB := Lib.hid hB
          clear hB
          go_wp2_with fail
          go_ret
          refine ⟨?_, hff.tr hfr⟩
          rw [HZ.out, HB.out]
          rfl
    · have hR2 : (min more (N : Int)).toNat = N := by omega
      rw [hR2]
      have hmn3 : (N : Int) < more := by omega
      clear hR2 hmn hmn2
      obtain ⟨Z, hZ⟩ : ∃ Z : Int, Z = if reachB ⟨k, N, o, t, l⟩ N = true then 0 else 4 := ⟨_, rfl⟩
      rw [← hZ]
      have HZ := Lib.hid hZ
      clear hZ
      go_enter Try.func13, Try.ntmps13
      go_upto_region 1 with (fail)
      rw [← HW.out, ← HQ.out]
      clear HW HQ
      go_wp2_with fail
      refine (HC.out w1 hs1 hl).mono ?_
      rintro e w2 ⟨rfl, hf2⟩
      rw [HE.out]
      have hb2 := hb.fr hf2 (fun h => h)
      have hff := HF.out.tr hf2
      have hs2 := hs1.up hf2
      clear b0 b1 b2 b3 b4 hf2 hb HF HC hs1
      have b1 := hb2.cell 1 rfl
      go_wp2_with fail
      rw [hp2]
      go_loopg [21] K (fun g x21 wr => ∃ (m : Nat), m + g = K ∧ x21 = .int .u32 (m : Int) ∧ allN m (fun x => !decide (cnt N x.testBit = N) || (isQ ⟨k, N, o, t, l⟩ false (nots x.testBit) && isQ ⟨k, N, o, t, l⟩ true (nots x.testBit))) = true ∧ Fr (fun _ => False) w2 wr)
      case atStart => exact ⟨0, by omega, rfl, rfl, Fr.refl _ _⟩
      case round =>
        clear b1
        obtain ⟨m, hm2, rfl, hno, hfr⟩ := hrel
        have HJ := Lib.hid (And.intro hm2 hno)
        have hm' : m ≤ K := by omega
        clear hm2 hno
        by_cases hlt : m < K
        · have hcs := cnt_small N m n12 (by rw [← HK.out]; exact hlt)
          have HCS := Lib.hid hcs
          have hcn := cnt_le N m.testBit
          clear hcs
          go_wp2_with fail
          refine (ones_any m (by omega) wr).mono ?_
          rintro e w4 ⟨rfl, hd⟩
          rw [HCS.out]
          have hfr4 : Fr (fun _ => False) w2 w4 := by obtain ⟨d, rfl⟩ := hd; exact hfr.drewN d
          have hbr := hb2.fr hfr4 (fun h => h)
          have hsr := hs2.up hfr4
          have b0 := hbr.cell 0 rfl
          have b1 := hbr.cell 1 rfl
          have b2 := hbr.cell 2 rfl
          have b3 := hbr.cell 3 rfl
          have b4 := hbr.cell 4 rfl
          clear hd hfr
          by_cases hc : cnt N m.testBit = N
          · have hc' : ((cnt N m.testBit : Nat) : Int) = (N : Int) := by omega
            have hc2 : (((cnt N m.testBit : Nat) : Int) == (N : Int)) = true := by simp [hc]
            have HCC := Lib.hid hc
            obtain ⟨C, hC, hxor⟩ : ∃ C : Nat, C = 4294967295 - m ∧ bits .xor .u32 IntKind.u32.max (m : Int) = (C : Int) := ⟨_, rfl, xor_max m (by omega)⟩
            have hCl : C < 4294967296 := by omega
            have hCg := HG.out m (by omega)
            rw [← hC] at hCg
            have HCG := Lib.hid hCg
            clear hc hc' hC hCg
            go_wp2_with fail
            refine (HI.out C hCl w4 hsr hl).mono ?_
            rintro e w5 ⟨rfl, hf5⟩
            rw [HCG.out.1, HCG.out.2]
            have hfr5 := hfr4.tr hf5
            clear b0 b1 b2 b3 b4 hf5
            cases hcan : (isQ ⟨k, N, o, t, l⟩ false (nots m.testBit) && isQ ⟨k, N, o, t, l⟩ true (nots m.testBit)) with
            | true =>
              have HCN := Lib.hid hcan
              clear hcan
              go_wp2_with fail
              go_roundg (K - (m + 1))
              case measure => have := HJ.out; omega
              case rel => exact ⟨m + 1, by have := HJ.out; omega, by go_num, by simp only [allN]; rw [HJ.out.2, HCN.out]; simp, hfr5⟩
            | false =>
              have HCN := Lib.hid hcan
              clear hcan
              go_wp2_with fail
              go_ret
              refine ⟨?_, hff.tr hfr5⟩
              have hB : reachB ⟨k, N, o, t, l⟩ N = false := by
                rw [Bool.eq_false_iff]
                intro h
                unfold reachB at h
                simp only [Int.toNat_natCast] at h
                rw [← HK.out] at h
                have := allN_iff.1 h m hlt
                rw [HCN.out, decide_eq_true HCC.out] at this
                cases this
              rw [HZ.out, hB]
              rfl
          · have hc2 : (((cnt N m.testBit : Nat) : Int) == (N : Int)) = false := by simp; omega
            have HCC := Lib.hid hc
            clear hc b0 b1 b2 b3 b4
            go_wp2_with fail
            go_roundg (K - (m + 1))
            case measure => have := HJ.out; omega
            case rel => exact ⟨m + 1, by have := HJ.out; omega, by go_num, by simp only [allN]; rw [HJ.out.2, decide_eq_false HCC.out]; rfl, hfr4⟩
        · obtain rfl : m = K := by omega
          have hB : reachB ⟨k, N, o, t, l⟩ N = true := by
            unfold reachB
            simp only [Int.toNat_natCast]
            rw [← HK.out]
            exact HJ.out.2
          have HB := Lib.hid hB
          clear hB
          go_wp2_with fail
          go_ret
          refine ⟨?_, hff.tr hfr⟩
          rw [HZ.out, HB.out]
          rfl
  · have hR : reachE q more = rightE q := by unfold reachE; rw [if_neg h]
    rw [hR]
    obtain ⟨k, n, o, t, l⟩ := q
    have hs0 := hs
    obtain ⟨A, c, rfl, -⟩ := hs0
    have hf := (Fr.refl (fun _ => False) w).alloc (.cells #[.int .i64 k, .int .i64 n, .int .i64 o, .int .i64 t, .slice A l.length c] 24)
    have HF := Lib.hid (And.intro hf (hs.up hf))
    simp only [Qu.v] at hl HC ⊢
    have h' : (rightE ⟨k, n, o, t, l⟩ == 0) = false := by simp [h]
    clear hf hs h hR
    go_enter Try.func13, Try.ntmps13
    go_wp2_with fail
    refine (HC.out _ HF.out.2 hl).mono ?_
    rintro e w2 ⟨rfl, hf2⟩
    go_wp2_with fail
    go_ret
    exact ⟨rfl, HF.out.1.tr hf2⟩
end Go.Proofs.Ytpcfeiejfomnoaa
