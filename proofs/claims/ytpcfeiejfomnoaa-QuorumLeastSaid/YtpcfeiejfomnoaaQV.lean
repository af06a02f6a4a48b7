/- The document's Reach. -/
import Derived.Test.YtpcfeiejfomnoaaQU
namespace Go.Proofs.Ytpcfeiejfomnoaa
open Go.RowKit

/-- The same, said of those that stay. -/
theorem reach_eq (q : Qu) (m d : Nat) (h : m + d = q.n.toNat) : (allN (2 ^ q.n.toNat) fun x => !decide (cnt q.n.toNat x.testBit = d) || (isQ q false x.testBit && isQ q true x.testBit)) = reachB q m := by
  have key : ∀ p : Nat → Bool, ∀ i, i < q.n.toNat → (mask q.n.toNat (nots p)).testBit i = nots p i := fun p i hi => by rw [mask_bit]; simp [hi]
  have back : ∀ p : Nat → Bool, ∀ i, i < q.n.toNat → nots (mask q.n.toNat (nots p)).testBit i = p i := fun p i hi => by
    unfold nots; rw [mask_bit]; simp [hi]
  rw [Bool.eq_iff_iff, allN_iff, reachB_iff]
  constructor
  · intro h1 x hx hc
    have h2 := cnt_not q.n.toNat x.testBit
    have h3 := h1 _ (mask_lt q.n.toNat (nots x.testBit))
    rw [cnt_congr (key x.testBit), decide_eq_true (by omega), isQ_congr (key x.testBit), isQ_congr (second := true) (key x.testBit)] at h3
    simpa using h3
  · intro h1 x hx
    by_cases hc : cnt q.n.toNat x.testBit = d
    · have h2 := cnt_not q.n.toNat x.testBit
      obtain ⟨h3, h4⟩ := h1 _ (mask_lt q.n.toNat (nots x.testBit)) (by rw [cnt_congr (key x.testBit)]; omega)
      rw [isQ_congr (back x.testBit)] at h3 h4
      rw [h3, h4]
      simp
    · rw [decide_eq_false hc]
      rfl

set_option maxRecDepth 100000 in
set_option maxHeartbeats 4000000 in
theorem rreach_any (q : Qu) (more : Int) (s : Value) (w : World) (hs : Ints w s q.s) (hl : q.s.length ≤ 1000) :
    Calls Try.prog 14 #[q.v s, .int .i64 more] w fun e w' => e = .returned (.int .i64 (reachE q more)) ∧ Fr (fun _ => False) w w' := by
  have HC := Lib.hid (rright_any q s)
  by_cases h : rightE q = 0
  · have ho := ok_of h
    obtain ⟨n1, n12, hn⟩ := ho.n
    have HI := Lib.hid fun (sec : Bool) (Y : Nat) (hY : Y < 4294967296) => ris_any q sec s Y hY
    have HRe := Lib.hid (reach_eq q)
    have hR : reachE q more = if more < 0 then 2 else if reachB q (min more q.n).toNat then 0 else 4 := by unfold reachE; rw [if_pos h]
    rw [hR]
    obtain ⟨k, n, o, t, l⟩ := q
    simp only at hn n1 n12 hl HI HRe ⊢
    obtain ⟨N, hNe⟩ : ∃ N, N = n.toNat := ⟨_, rfl⟩
    rw [← hNe] at hn n1 n12
    subst hn
    clear hNe hR ho
    have hs0 := hs
    obtain ⟨A, c, rfl, -⟩ := hs0
    obtain ⟨w1, hw1⟩ : ∃ w1, w1 = w.alloc (.cells #[.int .i64 k, .int .i64 N, .int .i64 o, .int .i64 t, .slice A l.length c] 24) := ⟨_, rfl⟩
    obtain ⟨q0, hq0⟩ : ∃ q0, q0 = w.heap.size := ⟨_, rfl⟩
    have hf : Fr (fun _ => False) w w1 := by rw [hw1]; exact (Fr.refl _ w).alloc _
    have hb : Blk w1 q0 24 #[.int .i64 k, .int .i64 N, .int .i64 o, .int .i64 t, .slice A l.length c] := by rw [hw1, hq0]; exact Blk.new _ _ _
    have hs1 := hs.up hf
    have HF := Lib.hid hf
    have HW := Lib.hid hw1
    have HQ := Lib.hid hq0
    have HE := Lib.hid h
    have b0 := hb.cell 0 rfl
    have b1 := hb.cell 1 rfl
    have b2 := hb.cell 2 rfl
    have b3 := hb.cell 3 rfl
    have b4 := hb.cell 4 rfl
    obtain ⟨K, hK⟩ : ∃ K : Nat, K = 2 ^ N := ⟨_, rfl⟩
    have hp2 := pow_int n12
    rw [← hK] at hp2
    have hK2 : K ≤ 4096 := by rw [hK]; exact (Nat.pow_le_pow_right (by omega) n12 : (2 : Nat) ^ N ≤ 2 ^ 12)
    have HK := Lib.hid hK
    simp only [Qu.v] at HC HI ⊢
    clear hf hs hw1 hq0 h hK
    by_cases hm : more < 0
    · rw [if_pos hm]
      go_enter Try.func14, Try.ntmps14
      go_upto_region 1 with (fail)
      rw [← HW.out, ← HQ.out]
      clear HW HQ
      go_wp2_with fail
      refine (HC.out w1 hs1 hl).mono ?_
      rintro e w2 ⟨rfl, hf2⟩
      rw [HE.out]
      clear b0 b1 b2 b3 b4
      go_wp2_with fail
      go_ret
      exact ⟨rfl, HF.out.tr hf2⟩
    rw [if_neg hm]
    by_cases hmn : more ≤ (N : Int)
    · obtain ⟨R, rfl⟩ := Int.eq_ofNat_of_zero_le (show 0 ≤ more by omega)
      have hR2 : (min (R : Int) (N : Int)).toNat = R := by omega
      rw [hR2]
      have hRN : R ≤ N := by omega
      obtain ⟨D, hD⟩ : ∃ D, R + D = N := ⟨N - R, by omega⟩
      have hmn2 : ¬ (N : Int) < (R : Int) := by omega
      have hmn3 : decide ((N : Int) < (R : Int)) = false := by simpa using hmn2
      have hmn4 : decide (N < R) = false := by simp; omega
      have HD := Lib.hid hD
      clear hR2
      obtain ⟨Z, hZ⟩ : ∃ Z : Int, Z = if reachB ⟨k, N, o, t, l⟩ R = true then 0 else 4 := ⟨_, rfl⟩
      rw [← hZ]
      have hre := HRe.out R D (by simp only [Int.toNat_natCast]; omega)
      simp only [Int.toNat_natCast] at hre
      rw [← HK.out] at hre
      rw [← hre] at hZ
      have HZ := Lib.hid hZ
      clear hZ hre
      go_enter Try.func14, Try.ntmps14
      go_upto_region 1 with (fail)
      rw [← HW.out, ← HQ.out]
      clear HW HQ
      go_wp2_with fail
      refine (HC.out w1 hs1 hl).mono ?_
      rintro e w2 ⟨rfl, hf2⟩
      rw [HE.out]
      have hb2 := hb.fr hf2 (fun h => h)
      have hff := HF.out.tr hf2
      have hs2 := hs1.up hf2
      clear b0 b1 b2 b3 b4 hf2 hb HF HC hs1
      have b1 := hb2.cell 1 rfl
      go_wp2_with fail
      go_loopg [6] K (fun g x6 wr => ∃ (m : Nat), m + g = K ∧ x6 = .int .u32 (m : Int) ∧ allN m (fun x => !decide (cnt N x.testBit = D) || (isQ ⟨k, N, o, t, l⟩ false x.testBit && isQ ⟨k, N, o, t, l⟩ true x.testBit)) = true ∧ Fr (fun _ => False) w2 wr)
      case atStart => exact ⟨0, by omega, rfl, rfl, Fr.refl _ _⟩
      case round =>
        clear b1
        obtain ⟨m, hm2, rfl, hno, hfr⟩ := hrel
        have HJ := Lib.hid (And.intro hm2 hno)
        have hm' : m ≤ K := by omega
        clear hm2 hno
        have hbr := hb2.fr hfr (fun h => h)
        have b1 := hbr.cell 1 rfl
        by_cases hlt : m < K
        · obtain ⟨C, hCe⟩ : ∃ C, C = cnt N m.testBit := ⟨_, rfl⟩
          have hcn := cnt_le N m.testBit
          have hcount : Calls Try.prog 18 #[.int .u32 (m : Int), .int .i64 N] (wr) fun e w' => e = .returned (.int .i64 (C : Nat)) ∧ wr = w' := by
            have := count_any m N (by omega) (by omega) wr
            rw [Int.toNat_natCast, ← hCe] at this
            exact this
          have HCt := Lib.hid (fun ww => (show Calls Try.prog 18 #[.int .u32 (m : Int), .int .i64 N] ww fun e w' => e = .returned (.int .i64 (C : Nat)) ∧ ww = w' by
            have := count_any m N (by omega) (by omega) ww
            rw [Int.toNat_natCast, ← hCe] at this
            exact this))
          rw [← hCe] at hcn
          have HCe := Lib.hid hCe
          clear hCe hcount
          have hDD := HD.out
          have hw3 : (N : Int) - (R : Int) = ((D : Nat) : Int) := by omega
          have hw4 : IntKind.i64.wrap ((N : Int) - (R : Int)) = ((D : Nat) : Int) := by rw [hw3]; exact IntWalk.i64_in _ ⟨by omega, by omega⟩
          by_cases hc : C = D
          · have hc2 : ((C : Int) == ((D : Nat) : Int)) = true := by simp [hc]
            have hc3 : ((C : Int) != ((D : Nat) : Int)) = false := by unfold bne; rw [hc2]; rfl
            have HCC := Lib.hid hc
            clear hc
            go_wp2_with fail
            go_quiet ((go_at_call 18; exact quiet_left (HCt.out _)))
            have hfr4 := hfr.drewN nq
            have hbr := hb2.fr hfr4 (fun h => h)
            have hsr := hs2.up hfr4
            clear b1 hw3 hw4 hc2 hc3 hfr
            have b0 := hbr.cell 0 rfl
            have b1 := hbr.cell 1 rfl
            have b2 := hbr.cell 2 rfl
            have b3 := hbr.cell 3 rfl
            have b4 := hbr.cell 4 rfl
            go_wp2_with fail
            refine (HI.out false m (by omega) _ hsr hl).mono ?_
            rintro e w5 ⟨rfl, hf5⟩
            have hfr5 := hfr4.tr hf5
            have hbr5 := hb2.fr hfr5 (fun h => h)
            have hsr5 := hs2.up hfr5
            clear b0 b1 b2 b3 b4 hf5 hfr4 hbr hsr
            have b0 := hbr5.cell 0 rfl
            have b1 := hbr5.cell 1 rfl
            have b2 := hbr5.cell 2 rfl
            have b3 := hbr5.cell 3 rfl
            have b4 := hbr5.cell 4 rfl
            go_wp2_with fail
            refine (HI.out true m (by omega) _ hsr5 hl).mono ?_
            rintro e w6 ⟨rfl, hf6⟩
            have hfr6 := hfr5.tr hf6
            clear b0 b1 b2 b3 b4 hf6 hfr5
            obtain ⟨V1, hV1⟩ : ∃ V, V = isQ ⟨k, N, o, t, l⟩ false m.testBit := ⟨_, rfl⟩
            obtain ⟨V2, hV2⟩ : ∃ V, V = isQ ⟨k, N, o, t, l⟩ true m.testBit := ⟨_, rfl⟩
            rw [← hV1, ← hV2]
            have HV := Lib.hid (And.intro hV1 hV2)
            clear hV1 hV2
            have hbad : (V1 && V2) = false → (allN K fun x => !decide (cnt N x.testBit = D) || (isQ ⟨k, N, o, t, l⟩ false x.testBit && isQ ⟨k, N, o, t, l⟩ true x.testBit)) = false := fun hv => by
              rw [Bool.eq_false_iff]
              intro h
              have := allN_iff.1 h m hlt
              rw [decide_eq_true (HCe.out.symm.trans HCC.out), ← HV.out.1, ← HV.out.2, hv] at this
              cases this
            have HBad := Lib.hid hbad
            clear hbad
            cases V1 with
            | false =>
              go_wp2_with fail
              go_ret
              refine ⟨?_, hff.tr hfr6⟩
              rw [HZ.out, HBad.out rfl]
              rfl
            | true =>
              cases V2 with
              | false =>
                go_wp2_with fail
                go_ret
                refine ⟨?_, hff.tr hfr6⟩
                rw [HZ.out, HBad.out rfl]
                rfl
              | true =>
                go_wp2_with fail
                go_roundg (K - (m + 1))
                case measure => have := HJ.out; omega
                case rel => exact ⟨m + 1, by have := HJ.out; omega, by go_num, by simp only [allN]; rw [HJ.out.2, ← HV.out.1, ← HV.out.2]; exact Bool.or_true _, hfr6⟩
          · have hc2 : ((C : Int) == ((D : Nat) : Int)) = false := by rw [eq_nat]; simpa using hc
            have hc3 : ((C : Int) != ((D : Nat) : Int)) = true := by unfold bne; rw [hc2]; rfl
            have HCC := Lib.hid hc
            clear hc
            go_wp2_with fail
            go_quiet ((go_at_call 18; exact quiet_left (HCt.out _)))
            go_wp2_with fail
            go_roundg (K - (m + 1))
            case measure => have := HJ.out; omega
            case rel => exact ⟨m + 1, by have := HJ.out; omega, by go_num, by simp only [allN]; rw [HJ.out.2, ← HCe.out, decide_eq_false HCC.out]; rfl, hfr.drewN _⟩
        · obtain rfl : m = K := by omega
          have HX := Lib.hid hfr
          clear hfr
          go_wp2_with fail
          go_ret
          refine ⟨?_, hff.tr HX.out⟩
          rw [HZ.out, HJ.out.2]
          rfl
    · have hR2 : (min more (N : Int)).toNat = N := by omega
      rw [hR2]
      have hmn2 : (N : Int) < more := by omega
      clear hR2 hmn
      obtain ⟨Z, hZ⟩ : ∃ Z : Int, Z = if reachB ⟨k, N, o, t, l⟩ N = true then 0 else 4 := ⟨_, rfl⟩
      rw [← hZ]
      have hre := HRe.out N 0 (by simp only [Int.toNat_natCast]; omega)
      simp only [Int.toNat_natCast] at hre
      rw [← HK.out] at hre
      rw [← hre] at hZ
      have HZ := Lib.hid hZ
      clear hZ hre
      go_enter Try.func14, Try.ntmps14
      go_upto_region 1 with (fail)
      rw [← HW.out, ← HQ.out]
      clear HW HQ
      go_wp2_with fail
      refine (HC.out w1 hs1 hl).mono ?_
      rintro e w2 ⟨rfl, hf2⟩
      rw [HE.out]
      have hb2 := hb.fr hf2 (fun h => h)
      have hff := HF.out.tr hf2
      have hs2 := hs1.up hf2
      clear b0 b1 b2 b3 b4 hf2 hb HF HC hs1
      have b1 := hb2.cell 1 rfl
      go_wp2_with fail
      go_loopg [6] K (fun g x6 wr => ∃ (m : Nat), m + g = K ∧ x6 = .int .u32 (m : Int) ∧ allN m (fun x => !decide (cnt N x.testBit = 0) || (isQ ⟨k, N, o, t, l⟩ false x.testBit && isQ ⟨k, N, o, t, l⟩ true x.testBit)) = true ∧ Fr (fun _ => False) w2 wr)
      case atStart => exact ⟨0, by omega, rfl, rfl, Fr.refl _ _⟩
      case round =>
        clear b1
        obtain ⟨m, hm2, rfl, hno, hfr⟩ := hrel
        have HJ := Lib.hid (And.intro hm2 hno)
        have hm' : m ≤ K := by omega
        clear hm2 hno
        have hbr := hb2.fr hfr (fun h => h)
        have b1 := hbr.cell 1 rfl
        by_cases hlt : m < K
        · obtain ⟨C, hCe⟩ : ∃ C, C = cnt N m.testBit := ⟨_, rfl⟩
          have hcn := cnt_le N m.testBit
          have hcount : Calls Try.prog 18 #[.int .u32 (m : Int), .int .i64 N] (wr) fun e w' => e = .returned (.int .i64 (C : Nat)) ∧ wr = w' := by
            have := count_any m N (by omega) (by omega) wr
            rw [Int.toNat_natCast, ← hCe] at this
            exact this
          have HCt := Lib.hid (fun ww => (show Calls Try.prog 18 #[.int .u32 (m : Int), .int .i64 N] ww fun e w' => e = .returned (.int .i64 (C : Nat)) ∧ ww = w' by
            have := count_any m N (by omega) (by omega) ww
            rw [Int.toNat_natCast, ← hCe] at this
            exact this))
          rw [← hCe] at hcn
          have HCe := Lib.hid hCe
          clear hCe hcount
          skip
          have hw3 : (N : Int) - (N : Int) = ((0 : Nat) : Int) := by omega
          have hw4 : IntKind.i64.wrap ((N : Int) - (N : Int)) = ((0 : Nat) : Int) := by rw [hw3]; exact IntWalk.i64_in _ ⟨by omega, by omega⟩
          by_cases hc : C = 0
          · have hc2 : ((C : Int) == (0 : Int)) = true := by simp [hc]
            have hc3 : ((C : Int) != (0 : Int)) = false := by unfold bne; rw [hc2]; rfl
            have HCC := Lib.hid hc
            clear hc
            go_wp2_with fail
            go_quiet ((go_at_call 18; exact quiet_left (HCt.out _)))
            have hfr4 := hfr.drewN nq
            have hbr := hb2.fr hfr4 (fun h => h)
            have hsr := hs2.up hfr4
            clear b1 hw3 hw4 hc2 hc3 hfr
            have b0 := hbr.cell 0 rfl
            have b1 := hbr.cell 1 rfl
            have b2 := hbr.cell 2 rfl
            have b3 := hbr.cell 3 rfl
            have b4 := hbr.cell 4 rfl
            go_wp2_with fail
            refine (HI.out false m (by omega) _ hsr hl).mono ?_
            rintro e w5 ⟨rfl, hf5⟩
            have hfr5 := hfr4.tr hf5
            have hbr5 := hb2.fr hfr5 (fun h => h)
            have hsr5 := hs2.up hfr5
            clear b0 b1 b2 b3 b4 hf5 hfr4 hbr hsr
            have b0 := hbr5.cell 0 rfl
            have b1 := hbr5.cell 1 rfl
            have b2 := hbr5.cell 2 rfl
            have b3 := hbr5.cell 3 rfl
            have b4 := hbr5.cell 4 rfl
            go_wp2_with fail
            refine (HI.out true m (by omega) _ hsr5 hl).mono ?_
            rintro e w6 ⟨rfl, hf6⟩
            have hfr6 := hfr5.tr hf6
            clear b0 b1 b2 b3 b4 hf6 hfr5
            obtain ⟨V1, hV1⟩ : ∃ V, V = isQ ⟨k, N, o, t, l⟩ false m.testBit := ⟨_, rfl⟩
            obtain ⟨V2, hV2⟩ : ∃ V, V = isQ ⟨k, N, o, t, l⟩ true m.testBit := ⟨_, rfl⟩
            rw [← hV1, ← hV2]
            have HV := Lib.hid (And.intro hV1 hV2)
            clear hV1 hV2
            have hbad : (V1 && V2) = false → (allN K fun x => !decide (cnt N x.testBit = 0) || (isQ ⟨k, N, o, t, l⟩ false x.testBit && isQ ⟨k, N, o, t, l⟩ true x.testBit)) = false := fun hv => by
              rw [Bool.eq_false_iff]
              intro h
              have := allN_iff.1 h m hlt
              rw [decide_eq_true (HCe.out.symm.trans HCC.out), ← HV.out.1, ← HV.out.2, hv] at this
              cases this
            have HBad := Lib.hid hbad
            clear hbad
            cases V1 with
            | false =>
              go_wp2_with fail
              go_ret
              refine ⟨?_, hff.tr hfr6⟩
              rw [HZ.out, HBad.out rfl]
              rfl
            | true =>
              cases V2 with
              | false =>
                go_wp2_with fail
                go_ret
                refine ⟨?_, hff.tr hfr6⟩
                rw [HZ.out, HBad.out rfl]
                rfl
              | true =>
                go_wp2_with fail
                go_roundg (K - (m + 1))
                case measure => have := HJ.out; omega
                case rel => exact ⟨m + 1, by have := HJ.out; omega, by go_num, by simp only [allN]; rw [HJ.out.2, ← HV.out.1, ← HV.out.2]; exact Bool.or_true _, hfr6⟩
          · have hc2 : ((C : Int) == (0 : Int)) = false := by simpa using hc
            have hc3 : ((C : Int) != (0 : Int)) = true := by unfold bne; rw [hc2]; rfl
            have HCC := Lib.hid hc
            clear hc
            go_wp2_with fail
            go_quiet ((go_at_call 18; exact quiet_left (HCt.out _)))
            go_wp2_with fail
            go_roundg (K - (m + 1))
            case measure => have := HJ.out; omega
            case rel => exact ⟨m + 1, by have := HJ.out; omega, by go_num, by simp only [allN]; rw [HJ.out.2, ← HCe.out, decide_eq_false HCC.out]; rfl, hfr.drewN _⟩
        · obtain rfl : m = K := by omega
          have HX := Lib.hid hfr
          clear hfr
          go_wp2_with fail
          go_ret
          refine ⟨?_, hff.tr HX.out⟩
          rw [HZ.out, HJ.out.2]
          rfl
  · have hR : reachE q more = rightE q := by unfold reachE; rw [if_neg h]
    rw [hR]
    obtain ⟨k, n, o, t, l⟩ := q
    have hs0 := hs
    obtain ⟨A, c, rfl, -⟩ := hs0
    have hf := (Fr.refl (fun _ => False) w).alloc (.cells #[.int .i64 k, .int .i64 n, .int .i64 o, .int .i64 t, .slice A l.length c] 24)
    have HF := Lib.hid (And.intro hf (hs.up hf))
    simp only [Qu.v] at hl HC ⊢
    have h' : (rightE ⟨k, n, o, t, l⟩ == 0) = false := by simp [h]
    have h2 : (rightE ⟨k, n, o, t, l⟩ != 0) = true := by unfold bne; rw [h']; rfl
    clear hf hs h hR
    go_enter Try.func14, Try.ntmps14
    go_wp2_with fail
    refine (HC.out _ HF.out.2 hl).mono ?_
    rintro e w2 ⟨rfl, hf2⟩
    go_wp2_with fail
    go_ret
    exact ⟨rfl, HF.out.1.tr hf2⟩
end Go.Proofs.Ytpcfeiejfomnoaa
