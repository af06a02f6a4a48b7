/- is, least, Can. -/
import Derived.Test.YtpcfeiejfomnoaaQC
import Derived.Deep.RegionHeld3
namespace Go.Proofs.Ytpcfeiejfomnoaa
open Go.RowKit

theorem is_any (q : Qu) (sec : Bool) (s : Value) (X : Nat) (hX : X < 4294967296) (w : World) (hs : Ints w s q.s) (hl : q.s.length ≤ 1000) :
    Calls Try.prog 20 #[q.v s, .bool sec, .int .u32 X] w fun e w' => e = .returned (.bool (isQ q sec X.testBit)) ∧ Fr (fun _ => False) w w' := by
  have H1 := Lib.hid (first_any q s X hX)
  have H2 := Lib.hid (second_any q s X hX)
  obtain ⟨k, n, o, t, l⟩ := q
  have hs0 := hs
  obtain ⟨A, c, rfl, -⟩ := hs0
  have hf := (Fr.refl (fun _ => False) w).alloc (.cells #[.int .i64 k, .int .i64 n, .int .i64 o, .int .i64 t, .slice A l.length c] 24)
  have HF := Lib.hid (And.intro hf (hs.up hf))
  simp only [Qu.v] at hl H1 H2 ⊢
  clear hf hs
  cases sec with
  | false =>
    go_enter Try.func20, Try.ntmps20
    go_wp2_with fail
    refine (H1.out _ HF.out.2 hl).mono ?_
    rintro e w2 ⟨rfl, hf2⟩
    go_wp2_with fail
    go_ret
    exact ⟨rfl, HF.out.1.tr hf2⟩
  | true =>
    go_enter Try.func20, Try.ntmps20
    go_wp2_with fail
    refine (H2.out _ HF.out.2 hl).mono ?_
    rintro e w2 ⟨rfl, hf2⟩
    go_wp2_with fail
    go_ret
    exact ⟨rfl, HF.out.1.tr hf2⟩

theorem can_any (q : Qu) (s : Value) (X : Nat) (hX : X < 4294967296) (w : World) (hs : Ints w s q.s) (hl : q.s.length ≤ 1000) :
    Calls Try.prog 19 #[q.v s, .int .u32 X] w fun e w' => e = .returned (.bool (isQ q false X.testBit && isQ q true X.testBit)) ∧ Fr (fun _ => False) w w' := by
  have H1 := Lib.hid (first_any q s X hX)
  have H2 := Lib.hid (second_any q s X hX)
  obtain ⟨k, n, o, t, l⟩ := q
  have hs0 := hs
  obtain ⟨A, c, rfl, -⟩ := hs0
  obtain ⟨w1, hw1⟩ : ∃ w1, w1 = w.alloc (.cells #[.int .i64 k, .int .i64 n, .int .i64 o, .int .i64 t, .slice A l.length c] 24) := ⟨_, rfl⟩
  have hf : Fr (fun _ => False) w w1 := by rw [hw1]; exact (Fr.refl _ w).alloc _
  have hb : Blk w1 w.heap.size 24 #[.int .i64 k, .int .i64 n, .int .i64 o, .int .i64 t, .slice A l.length c] := by rw [hw1]; exact Blk.new _ _ _
  have HF := Lib.hid (And.intro hf (hs.up hf))
  have HW := Lib.hid hw1
  have b0 := hb.cell 0 rfl
  have b1 := hb.cell 1 rfl
  have b2 := hb.cell 2 rfl
  have b3 := hb.cell 3 rfl
  have b4 := hb.cell 4 rfl
  simp only [Qu.v] at hl H1 H2 ⊢
  clear hf hs hw1
  go_enter Try.func19, Try.ntmps19
  go_upto_region 1 with (fail)
  rw [← HW.out]
  clear HW
  go_wp2_with fail
  refine (H1.out w1 HF.out.2 hl).mono ?_
  rintro e w2 ⟨rfl, hf2⟩
  have hb2 := hb.fr hf2 (fun h => h)
  have hs2 := HF.out.2.up hf2
  clear b0 b1 b2 b3 b4
  cases he : isQ ⟨k, n, o, t, l⟩ false X.testBit with
  | false =>
    have HE := Lib.hid he
    clear he
    go_wp2_with fail
    go_ret
    exact ⟨by rw [HE.out]; rfl, HF.out.1.tr hf2⟩
  | true =>
    have HE := Lib.hid he
    clear he
    have b0 := hb2.cell 0 rfl
    have b1 := hb2.cell 1 rfl
    have b2 := hb2.cell 2 rfl
    have b3 := hb2.cell 3 rfl
    have b4 := hb2.cell 4 rfl
    go_wp2_with fail
    refine (H2.out w2 hs2 hl).mono ?_
    rintro e w3 ⟨rfl, hf3⟩
    clear b0 b1 b2 b3 b4
    go_wp2_with fail
    go_ret
    exact ⟨by rw [HE.out]; rfl, (HF.out.1.tr hf2).tr hf3⟩

/-- p without i. -/
def less (p : Nat → Bool) (i : Nat) (j : Nat) : Bool := p j && !decide (j = i)
/-- May no node be left out? -/
def leastB (q : Qu) (sec : Bool) (p : Nat → Bool) : Bool := allN q.n.toNat fun i => !(p i && isQ q sec (less p i))
theorem not_bit (X i j : Nat) (hi : i < 12) (hX : X < 4294967296) : (X &&& (4294967295 - 2 ^ i)).testBit j = less X.testBit i j := by
  have hp : (2 : Nat) ^ i < 2 ^ 32 := Nat.pow_lt_pow_right (by omega) (by omega)
  have h : 4294967295 - 2 ^ i = 2 ^ 32 - (2 ^ i + 1) := by omega
  rw [Nat.testBit_and, h, Nat.testBit_two_pow_sub_succ hp, Nat.testBit_two_pow]
  unfold less
  by_cases hj : j < 32
  · by_cases e : j = i
    · simp [e]
    · simp [e, hj, Ne.symm e]
  · rw [Nat.testBit_lt_two_pow (Nat.lt_of_lt_of_le hX (by have : (2 : Nat) ^ 32 ≤ 2 ^ j := Nat.pow_le_pow_right (by omega) (by omega); simpa using this))]
    simp
theorem andNot_eq (X j : Nat) (hj : j < 12) (hX : X < 4294967296) : ∃ V : Nat, bits .andNot .u32 (X : Int) (IntKind.u32.wrap ((2 : Int) ^ j)) = (V : Int) ∧ V < 4294967296 ∧ ∀ i, V.testBit i = less X.testBit j i := by
  have hp : (2 : Nat) ^ j ≤ 2 ^ 12 := Nat.pow_le_pow_right (by omega) (by omega)
  refine ⟨X &&& (4294967295 - 2 ^ j), ?_, Nat.lt_of_le_of_lt Nat.and_le_left hX, fun i => not_bit X j i hj hX⟩
  rw [IntKind.wrap_u32', pow_int (by omega), u32_andNot_nat X _ hX (by omega)]
theorem shr_one (X j : Nat) : bits .and .u32 (((X / 2 ^ j : Nat) : Int) % 4294967296) 1 = if X.testBit j then 1 else 0 := by
  have h := u32_and_nat (X / 2 ^ j % 4294967296) 1 (by omega) (by omega)
  rw [nat_mask1] at h
  rw [show (((X / 2 ^ j : Nat) : Int) % 4294967296) = ((X / 2 ^ j % 4294967296 : Nat) : Int) by omega, show (1 : Int) = ((1 : Nat) : Int) from rfl, h]
  rw [Nat.testBit_eq_decide_div_mod_eq]
  by_cases e : X / 2 ^ j % 2 = 1
  · simp [e]
  · rw [show X / 2 ^ j % 4294967296 % 2 = 0 by omega]; simp [e]

theorem shr_two (X j : Nat) (hX : X < 4294967296) : bits .and .u32 ((X : Int) / 2 ^ j) 1 = if X.testBit j = true then 1 else 0 := by
  have h := shr_one X j
  have e : ((X / 2 ^ j : Nat) : Int) = (X : Int) / 2 ^ j := by simp
  have hle : X / 2 ^ j ≤ X := Nat.div_le_self _ _
  generalize X / 2 ^ j = y at h e hle
  rw [Int.emod_eq_of_lt (by omega) (by omega), e] at h
  exact h
set_option maxRecDepth 100000 in
set_option maxHeartbeats 4000000 in
theorem least_any (q : Qu) (sec : Bool) (s : Value) (X : Nat) (hX : X < 4294967296) (w : World) (hs : Ints w s q.s) (hl : q.s.length ≤ 1000) (h1 : 1 ≤ q.n) (h12 : q.n ≤ 12) :
    Calls Try.prog 21 #[q.v s, .bool sec, .int .u32 X] w fun e w' => e = .returned (.bool (leastB q sec X.testBit)) ∧ Fr (fun _ => False) w w' := by
  have HI := Lib.hid fun (Y : Nat) (hY : Y < 4294967296) => is_any q sec s Y hY
  obtain ⟨k, n, o, t, l⟩ := q
  simp only at h1 h12
  obtain ⟨N, rfl⟩ := Int.eq_ofNat_of_zero_le (show 0 ≤ n by omega)
  have hN : N ≤ 12 := by omega
  have hs0 := hs
  obtain ⟨A, c, rfl, -⟩ := hs0
  obtain ⟨w1, hw1⟩ : ∃ w1, w1 = w.alloc (.cells #[.int .i64 k, .int .i64 N, .int .i64 o, .int .i64 t, .slice A l.length c] 24) := ⟨_, rfl⟩
  obtain ⟨q0, hq0⟩ : ∃ q0, q0 = w.heap.size := ⟨_, rfl⟩
  have hf : Fr (fun _ => False) w w1 := by rw [hw1]; exact (Fr.refl _ w).alloc _
  have hb : Blk w1 q0 24 #[.int .i64 k, .int .i64 N, .int .i64 o, .int .i64 t, .slice A l.length c] := by rw [hw1, hq0]; exact Blk.new _ _ _
  have hs1 := hs.up hf
  have HF := Lib.hid hf
  have HW := Lib.hid hw1
  have HQ := Lib.hid hq0
  have b1 := hb.cell 1 rfl
  simp only [Qu.v] at hl HI ⊢
  clear hf hs hw1 hq0
  go_enter Try.func21, Try.ntmps21
  go_upto_region 1 with (fail)
  rw [← HW.out, ← HQ.out]
  clear HW HQ
  go_wp2_with fail
  go_loopg [10] N (fun g x10 wr => ∃ (j : Nat), j + g = N ∧ x10 = .int .i64 j ∧ allN j (fun i => !(X.testBit i && isQ ⟨k, N, o, t, l⟩ sec (less X.testBit i))) = true ∧ Fr (fun _ => False) w1 wr)
  case atStart => exact ⟨0, by omega, rfl, rfl, Fr.refl _ _⟩
  case round =>
    obtain ⟨j, hj, rfl, hno, hfr⟩ := hrel
    have HJ := Lib.hid (And.intro hj hno)
    have hj' : j ≤ N := by omega
    clear hj hno b1
    have hbr := hb.fr hfr (fun h => h)
    have hsr := hs1.up hfr
    have b0 := hbr.cell 0 rfl
    have b1 := hbr.cell 1 rfl
    have b2 := hbr.cell 2 rfl
    have b3 := hbr.cell 3 rfl
    have b4 := hbr.cell 4 rfl
    by_cases hlt : j < N
    · cases ht : X.testBit j with
      | false =>
        have HT := Lib.hid ht
        have hv1 := shr_two X j hX
        rw [ht] at hv1
        have hmin : min j 32 = j := by omega
        clear ht
        go_upto_region 4 with (fail)
        go_region
        have hfr2 := hfr.drew
        go_wp2_with fail
        go_roundg (N - (j + 1))
        case measure => have := HJ.out; omega
        case rel => exact ⟨j + 1, by have := HJ.out; omega, by go_num, by simp only [allN]; rw [HJ.out.2, HT.out]; rfl, hfr2⟩
      | true =>
        have HT := Lib.hid ht
        have hv1 := shr_two X j hX
        rw [ht] at hv1
        have hmin : min j 32 = j := by omega
        clear ht
        go_upto_region 4 with (fail)
        obtain ⟨V, hV, hVl, hVb⟩ := andNot_eq X j (by omega) hX
        have HV := Lib.hid hVb
        clear hVb
        go_region_held3 (fun wx => wx.cell? ⟨q0, 0, none⟩ = some (.int .i64 k) ∧ wx.cell? ⟨q0, 1, none⟩ = some (.int .i64 N) ∧ wx.cell? ⟨q0, 2, none⟩ = some (.int .i64 o) ∧ wx.cell? ⟨q0, 3, none⟩ = some (.int .i64 t) ∧ wx.cell? ⟨q0, 4, none⟩ = some (.slice A l.length c)) (first | exact ⟨b0, b1, b2, b3, b4⟩ | exact hS4)
          ((go_at_call 20
            refine (HI.out V hVl _ (hsr.up ((Fr.refl _ wr).drew)) hl).mono ?_
            rintro e w4 ⟨rfl, hf4⟩
            have hf5 : Fr (fun _ => False) wr w4 := hf4.of_drew
            have hS4 : w4.cell? ⟨q0, 0, none⟩ = some (.int .i64 k) ∧ w4.cell? ⟨q0, 1, none⟩ = some (.int .i64 N) ∧ w4.cell? ⟨q0, 2, none⟩ = some (.int .i64 o) ∧ w4.cell? ⟨q0, 3, none⟩ = some (.int .i64 t) ∧ w4.cell? ⟨q0, 4, none⟩ = some (.slice A l.length c) :=
              ⟨hf5.cell b0 (fun h => h), hf5.cell b1 (fun h => h), hf5.cell b2 (fun h => h), hf5.cell b3 (fun h => h), hf5.cell b4 (fun h => h)⟩))
        have hfr2 := hfr.tr hf5
        have he : isQ ⟨k, N, o, t, l⟩ sec V.testBit = isQ ⟨k, N, o, t, l⟩ sec (less X.testBit j) := isQ_congr fun i _ => HV.out i
        rw [he]
        clear b0 b1 b2 b3 b4 hS4 he
        cases hz : isQ ⟨k, N, o, t, l⟩ sec (less X.testBit j) with
        | true =>
          have HZ := Lib.hid hz
          clear hz
          go_wp2_with fail
          go_ret
          refine ⟨?_, HF.out.tr hfr2⟩
          have : leastB ⟨k, N, o, t, l⟩ sec X.testBit = false := by
            rw [Bool.eq_false_iff]
            intro h
            have := allN_iff.1 h j hlt
            rw [HT.out, HZ.out] at this
            cases this
          rw [this]
          rfl
        | false =>
          have HZ := Lib.hid hz
          clear hz
          go_wp2_with fail
          go_roundg (N - (j + 1))
          case measure => have := HJ.out; omega
          case rel => exact ⟨j + 1, by have := HJ.out; omega, by go_num, by simp only [allN]; rw [HJ.out.2, HT.out, HZ.out]; rfl, hfr2⟩
    · obtain rfl : j = N := by omega
      go_wp2_with fail
      go_ret
      refine ⟨?_, HF.out.tr hfr⟩
      have : leastB ⟨k, j, o, t, l⟩ sec X.testBit = true := HJ.out.2
      rw [this]
      rfl
end Go.Proofs.Ytpcfeiejfomnoaa
