/- First, Second: quorums of either phase. -/
import Derived.Test.YtliljjlegofmkaaQB
namespace Go.Proofs.Ytliljjlegofmkaa
open Go.RowKit

/-- The systems that may be. -/
inductive Ok : Qu → Prop
  | one (N O T : Nat) (s : List Int) (n1 : 1 ≤ N) (n12 : N ≤ 12) (o1 : 1 ≤ O) (oN : O ≤ N) (t1 : 1 ≤ T) (tN : T ≤ N) (m : N < O + T) : Ok ⟨1, N, O, T, s⟩
  | two (N O T : Nat) (s : List Int) (n1 : 1 ≤ N) (n12 : N ≤ 12) (o1 : 1 ≤ O) (oN : O ≤ N) (t1 : 1 ≤ T) (tN : T ≤ N) (m : O * T = N) : Ok ⟨2, N, O, T, s⟩
  | three (o t : Int) (s : List Int) (n1 : 1 ≤ s.length) (n12 : s.length ≤ 12) (b : s.any badS = false) : Ok ⟨3, s.length, o, t, s⟩
theorem ok_of {q : Qu} (h : rightE q = 0) : Ok q := by
  obtain ⟨k, n, o, t, s⟩ := q
  unfold rightE at h
  split at h
  · omega
  rename_i hn
  simp only at hn h
  split at h
  · rename_i hk
    subst hk
    split at h
    · rename_i hc
      simp only [cts, decide_eq_true_eq] at hc
      split at h
      · omega
      · rename_i hm
        obtain ⟨N, rfl⟩ := Int.eq_ofNat_of_zero_le (show 0 ≤ n by omega)
        obtain ⟨O, rfl⟩ := Int.eq_ofNat_of_zero_le (show 0 ≤ o by omega)
        obtain ⟨T, rfl⟩ := Int.eq_ofNat_of_zero_le (show 0 ≤ t by omega)
        exact .one N O T s (by omega) (by omega) (by omega) (by omega) (by omega) (by omega) (by omega)
    · omega
  · split at h
    · rename_i _ hk
      subst hk
      split at h
      · rename_i hc
        simp only [cts, Bool.and_eq_true, decide_eq_true_eq] at hc
        obtain ⟨hc, hm⟩ := hc
        obtain ⟨N, rfl⟩ := Int.eq_ofNat_of_zero_le (show 0 ≤ n by omega)
        obtain ⟨O, rfl⟩ := Int.eq_ofNat_of_zero_le (show 0 ≤ o by omega)
        obtain ⟨T, rfl⟩ := Int.eq_ofNat_of_zero_le (show 0 ≤ t by omega)
        exact .two N O T s (by omega) (by omega) (by omega) (by omega) (by omega) (by omega) (by exact_mod_cast hm)
      · omega
    · split at h
      · rename_i _ _ hk
        subst hk
        split at h
        · rename_i hc
          simp only [Bool.and_eq_true, decide_eq_true_eq, Bool.not_eq_true'] at hc
          obtain ⟨hc, hb⟩ := hc
          subst hc
          exact .three o t s (by omega) (by omega) hb
        · omega
      · omega
theorem Ok.right {q : Qu} (h : Ok q) : rightE q = 0 := by
  cases h with
  | one N O T s n1 n12 o1 oN t1 tN m =>
    unfold rightE
    rw [if_neg (by simp only; omega), if_pos rfl, show cts ⟨1, N, O, T, s⟩ = true by simp [cts]; omega, if_pos rfl, if_neg (by simp only; omega)]
  | two N O T s n1 n12 o1 oN t1 tN m =>
    unfold rightE
    rw [if_neg (by simp only; omega), if_neg (by simp), if_pos rfl, show cts ⟨2, N, O, T, s⟩ = true by simp [cts]; omega]
    have : (O : Int) * (T : Int) = (N : Int) := by exact_mod_cast m
    simp [this]
  | three o t s n1 n12 b =>
    unfold rightE
    rw [if_neg (by simp only; omega), if_neg (by simp), if_neg (by simp), if_pos rfl, b]
    simp
theorem Ok.n {q : Qu} (h : Ok q) : 1 ≤ q.n.toNat ∧ q.n.toNat ≤ 12 ∧ q.n = (q.n.toNat : Int) := by cases h <;> simp only <;> omega


/-- The set, cut to the nodes that there are. -/
theorem cut_eq (N X : Nat) (hN : N ≤ 12) (hX : X < 4294967296) : bits .and .u32 (X : Int) (((2 : Int) ^ N - 1) % 4294967296) = ((X % 2 ^ N : Nat) : Int) := by
  have h : (2 : Nat) ^ N ≤ 4096 := (Nat.pow_le_pow_right (by omega) hN : (2 : Nat) ^ N ≤ 2 ^ 12)
  have h0 := Nat.two_pow_pos N
  have e : ((2 : Int) ^ N - 1) % 4294967296 = ((2 ^ N - 1 : Nat) : Int) := by
    have e1 : (2 : Int) ^ N = ((2 ^ N : Nat) : Int) := by simp
    rw [e1]
    generalize (2 : Nat) ^ N = y at h h0
    omega
  rw [e, u32_and_nat _ _ hX (by omega), Nat.and_two_pow_sub_one_eq_mod]
theorem cut_eq' (N X : Nat) (hN : N ≤ 12) (hX : X < 4294967296) : ∃ K : Nat, (2 : Int) ^ N % 4294967296 = (K : Int) ∧ 1 ≤ K ∧ K ≤ 4096 ∧ bits .and .u32 (X : Int) ((K : Int) - 1) = ((X % 2 ^ N : Nat) : Int) := by
  have h : (2 : Nat) ^ N ≤ 4096 := (Nat.pow_le_pow_right (by omega) hN : (2 : Nat) ^ N ≤ 2 ^ 12)
  have h0 := Nat.two_pow_pos N
  have h1 := cut_eq N X hN hX
  refine ⟨2 ^ N, pow_int hN, h0, h, ?_⟩
  have e1 : (2 : Int) ^ N = ((2 ^ N : Nat) : Int) := by simp
  rw [← h1, e1]
  congr 1
  generalize (2 : Nat) ^ N = y at h h0
  omega
theorem cut_bit (N X i : Nat) (hi : i < N) : (X % 2 ^ N).testBit i = X.testBit i := by rw [Nat.testBit_mod_two_pow]; simp [hi]
theorem cut_lt (N X : Nat) (hN : N ≤ 12) : X % 2 ^ N < 4096 := Nat.lt_of_lt_of_le (Nat.mod_lt _ (Nat.two_pow_pos N)) (Nat.pow_le_pow_right (by omega) hN : (2 : Nat) ^ N ≤ 2 ^ 12)
theorem cnt_cut (N X : Nat) (hN : N ≤ 12) : cnt 12 (X % 2 ^ N).testBit = cnt N X.testBit := by
  obtain ⟨M, hM⟩ : ∃ M, 12 = N + M := ⟨12 - N, by omega⟩
  rw [hM, cnt_add]
  have e3 : cnt M (fun i => (X % 2 ^ N).testBit (N + i)) = 0 := by
    rw [cnt_congr (p' := fun _ => false) fun i hi => ?_]
    · clear hM
      induction M with
      | zero => rfl
      | succ M ih => simpa [cnt] using ih
    · rw [Nat.testBit_mod_two_pow, decide_eq_false (by omega)]; rfl
  rw [e3, Nat.add_zero]
  exact cnt_congr fun i hi => cut_bit N X i hi
theorem and_eq (x y : Nat) (hx : x < 4096) (hy : y < 4096) : bits .and .u32 (x : Int) (y : Int) = ((x &&& y : Nat) : Int) := u32_and_nat _ _ (by omega) (by omega)
theorem eq_nat (x y : Nat) : ((x : Int) == (y : Int)) = (x == y) := by
  rw [Bool.eq_iff_iff]
  simp only [beq_iff_eq]
  omega

set_option maxRecDepth 100000 in
set_option maxHeartbeats 4000000 in
theorem first_bad (q : Qu) (s : Value) (X : Nat) (w : World) (hs : Ints w s q.s) (hl : q.s.length ≤ 1000) (h : ¬ rightE q = 0) :
    Calls Try.prog 36 #[q.v s, .int .u32 X] w fun e w' => e = .returned (.bool false) ∧ Fr (fun _ => False) w w' := by
  have HC := Lib.hid (right_any q s)
  obtain ⟨k, n, o, t, l⟩ := q
  have hs0 := hs
  obtain ⟨A, c, rfl, -⟩ := hs0
  have hf := (Fr.refl (fun _ => False) w).alloc (.cells #[.int .i64 k, .int .i64 n, .int .i64 o, .int .i64 t, .slice A l.length c] 24)
  have HF := Lib.hid (And.intro hf (hs.up hf))
  simp only [Qu.v] at hl HC ⊢
  have h' : (rightE ⟨k, n, o, t, l⟩ == 0) = false := by simp [h]
  clear hf hs h
  go_enter Try.func36, Try.ntmps36
  go_wp2_with fail
  refine (HC.out _ HF.out.2 hl).mono ?_
  rintro e w2 ⟨rfl, hf2⟩
  go_wp2_with fail
  go_ret
  exact ⟨rfl, HF.out.1.tr hf2⟩

set_option maxRecDepth 100000 in
set_option maxHeartbeats 4000000 in
theorem first_one (N O T : Nat) (l : List Int) (n1 : 1 ≤ N) (n12 : N ≤ 12) (o1 : 1 ≤ O) (oN : O ≤ N) (t1 : 1 ≤ T) (tN : T ≤ N) (m : N < O + T) (s : Value) (X : Nat) (hX : X < 4294967296) (w : World) (hs : Ints w s l) (hl : l.length ≤ 1000) :
    Calls Try.prog 36 #[.agg #[.int .i64 1, .int .i64 N, .int .i64 O, .int .i64 T, s], .int .u32 X] w fun e w' => e = .returned (.bool (quo ⟨1, N, O, T, l⟩ false (X % 2 ^ N).testBit)) ∧ Fr (fun _ => False) w w' := by
  have HC := Lib.hid (right_any ⟨1, N, O, T, l⟩ s)
  have HE := Lib.hid (Ok.one N O T l n1 n12 o1 oN t1 tN m).right
  have hs0 := hs
  obtain ⟨A, c, rfl, -⟩ := hs0
  obtain ⟨w1, hw1⟩ : ∃ w1, w1 = w.alloc (.cells #[.int .i64 1, .int .i64 N, .int .i64 O, .int .i64 T, .slice A l.length c] 24) := ⟨_, rfl⟩
  obtain ⟨q0, hq0⟩ : ∃ q0, q0 = w.heap.size := ⟨_, rfl⟩
  have hf : Fr (fun _ => False) w w1 := by rw [hw1]; exact (Fr.refl _ w).alloc _
  have hb : Blk w1 q0 24 #[.int .i64 1, .int .i64 N, .int .i64 O, .int .i64 T, .slice A l.length c] := by rw [hw1, hq0]; exact Blk.new _ _ _
  have HW := Lib.hid hw1
  have HQ := Lib.hid hq0
  have HF := Lib.hid (And.intro hf (hs.up hf))
  have b0 := hb.cell 0 rfl
  have b1 := hb.cell 1 rfl
  have b2 := hb.cell 2 rfl
  have b3 := hb.cell 3 rfl
  have b4 := hb.cell 4 rfl
  obtain ⟨K, hp2, hK1, hK2, hcut⟩ := cut_eq' N X (by omega) hX
  have hY := cut_lt N X (by omega)
  obtain ⟨Y, hYe⟩ : ∃ Y, Y = X % 2 ^ N := ⟨_, rfl⟩
  rw [← hYe] at hcut hY
  have hc12 : cnt 12 Y.testBit = cnt N X.testBit := by rw [hYe]; exact cnt_cut _ _ (by omega)
  have hcn : cnt N Y.testBit = cnt N X.testBit := by rw [hYe]; exact cnt_congr fun i hi => cut_bit _ X i hi
  have hq := (show quo ⟨1, N, O, T, l⟩ false (X % 2 ^ N).testBit = decide (((O : Nat) : Int) ≤ (cnt N (X % 2 ^ N).testBit : Int)) by unfold quo; rw [if_pos rfl]; rfl)
  rw [hYe.symm] at hq
  have HY := Lib.hid (And.intro hq (And.intro hc12 hcn))
  rw [← hYe]
  simp only [Qu.v] at HC
  clear hf hs hw1 hq0 hYe hc12 hq hcn
  go_enter Try.func36, Try.ntmps36
  go_upto_region 1 with (fail)
  rw [← HW.out, ← HQ.out]
  clear HW HQ
  go_wp2_with fail
  refine (HC.out w1 HF.out.2 (by omega)).mono ?_
  rintro e w2 ⟨rfl, hf2⟩
  rw [HE.out]
  have hb2 := hb.fr hf2 (fun h => h)
  have hff := HF.out.1.tr hf2
  have hs2 := HF.out.2.up hf2
  clear b0 b1 b2 b3 b4 hf2 hb HF HC
  have b0 := hb2.cell 0 rfl
  have b1 := hb2.cell 1 rfl
  have b2 := hb2.cell 2 rfl
  have b3 := hb2.cell 3 rfl
  have b4 := hb2.cell 4 rfl
  go_wp2_with fail
  go_quiet ((go_at_call 58; exact Calls.quiet_of (ones_any Y hY _)))
  go_wp2_with fail
  go_ret
  refine ⟨?_, hff.drewN _⟩
  rw [HY.out.1, HY.out.2.2, ← HY.out.2.1]
  show Ending.returned (.bool (decide (O ≤ cnt 12 Y.testBit))) = _
  congr 2
  rw [decide_eq_decide]
  omega

set_option maxRecDepth 100000 in
set_option maxHeartbeats 4000000 in
theorem first_two (N O T : Nat) (l : List Int) (n1 : 1 ≤ N) (n12 : N ≤ 12) (o1 : 1 ≤ O) (oN : O ≤ N) (t1 : 1 ≤ T) (tN : T ≤ N) (m : O * T = N) (s : Value) (X : Nat) (hX : X < 4294967296) (w : World) (hs : Ints w s l) (hl : l.length ≤ 1000) :
    Calls Try.prog 36 #[.agg #[.int .i64 2, .int .i64 N, .int .i64 O, .int .i64 T, s], .int .u32 X] w fun e w' => e = .returned (.bool (quo ⟨2, N, O, T, l⟩ false (X % 2 ^ N).testBit)) ∧ Fr (fun _ => False) w w' := by
  have HC := Lib.hid (right_any ⟨2, N, O, T, l⟩ s)
  have HE := Lib.hid (Ok.two N O T l n1 n12 o1 oN t1 tN m).right
  have hs0 := hs
  obtain ⟨A, c, rfl, -⟩ := hs0
  obtain ⟨w1, hw1⟩ : ∃ w1, w1 = w.alloc (.cells #[.int .i64 2, .int .i64 N, .int .i64 O, .int .i64 T, .slice A l.length c] 24) := ⟨_, rfl⟩
  obtain ⟨q0, hq0⟩ : ∃ q0, q0 = w.heap.size := ⟨_, rfl⟩
  have hf : Fr (fun _ => False) w w1 := by rw [hw1]; exact (Fr.refl _ w).alloc _
  have hb : Blk w1 q0 24 #[.int .i64 2, .int .i64 N, .int .i64 O, .int .i64 T, .slice A l.length c] := by rw [hw1, hq0]; exact Blk.new _ _ _
  have HW := Lib.hid hw1
  have HQ := Lib.hid hq0
  have HF := Lib.hid (And.intro hf (hs.up hf))
  have b0 := hb.cell 0 rfl
  have b1 := hb.cell 1 rfl
  have b2 := hb.cell 2 rfl
  have b3 := hb.cell 3 rfl
  have b4 := hb.cell 4 rfl
  obtain ⟨K, hp2, hK1, hK2, hcut⟩ := cut_eq' N X (by omega) hX
  have hY := cut_lt N X (by omega)
  obtain ⟨Y, hYe⟩ : ∃ Y, Y = X % 2 ^ N := ⟨_, rfl⟩
  rw [← hYe] at hcut hY
  have hc12 : cnt 12 Y.testBit = cnt N X.testBit := by rw [hYe]; exact cnt_cut _ _ (by omega)
  have hcn : cnt N Y.testBit = cnt N X.testBit := by rw [hYe]; exact cnt_congr fun i hi => cut_bit _ X i hi
  have hq := (show quo ⟨2, N, O, T, l⟩ false (X % 2 ^ N).testBit = anyN O (fun r => allN N fun i => !lineP T r false i || (X % 2 ^ N).testBit i) by unfold quo; rw [if_neg (by simp), if_pos rfl]; rfl)
  rw [hYe.symm] at hq
  have HY := Lib.hid (And.intro hq (And.intro hc12 hcn))
  rw [← hYe]
  simp only [Qu.v] at HC
  clear hf hs hw1 hq0 hYe hc12 hq hcn
  go_enter Try.func36, Try.ntmps36
  go_upto_region 1 with (fail)
  rw [← HW.out, ← HQ.out]
  clear HW HQ
  go_wp2_with fail
  refine (HC.out w1 HF.out.2 (by omega)).mono ?_
  rintro e w2 ⟨rfl, hf2⟩
  rw [HE.out]
  have hb2 := hb.fr hf2 (fun h => h)
  have hff := HF.out.1.tr hf2
  have hs2 := HF.out.2.up hf2
  clear b0 b1 b2 b3 b4 hf2 hb HF HC
  have b0 := hb2.cell 0 rfl
  have b1 := hb2.cell 1 rfl
  have b2 := hb2.cell 2 rfl
  have b3 := hb2.cell 3 rfl
  have b4 := hb2.cell 4 rfl
  go_wp2_with fail
  rw [hp2]
  go_loopg [31] O (fun g x31 wr => ∃ (j : Nat), j + g = O ∧ x31 = .int .i64 j ∧ anyN j (fun r => allN N fun i => !lineP T r false i || Y.testBit i) = false ∧ Fr (fun _ => False) w2 wr)
  case atStart => exact ⟨0, by omega, rfl, rfl, Fr.refl _ _⟩
  case round =>
    obtain ⟨j, hj, rfl, hno, hfr⟩ := hrel
    have HJ := Lib.hid (And.intro hj hno)
    have hj' : j ≤ O := by omega
    clear hj hno b0 b1 b2 b3 b4
    have hbr := hb2.fr hfr (fun h => h)
    have hsr := hs2.up hfr
    have b0 := hbr.cell 0 rfl
    have b1 := hbr.cell 1 rfl
    have b2 := hbr.cell 2 rfl
    have b3 := hbr.cell 3 rfl
    have b4 := hbr.cell 4 rfl
    by_cases hlt : j < O
    · have hml := mask_lt12 (n := N) n12 (lineP T j false)
      have hae := and_eq Y _ hY hml
      have haa := and_all N Y (lineP T j false)
      obtain ⟨M, hM⟩ : ∃ M, M = mask N (lineP T j false) := ⟨_, rfl⟩
      rw [← hM] at hml hae haa
      obtain ⟨Z, hZ⟩ : ∃ Z, Z = Y &&& M := ⟨_, rfl⟩
      rw [← hZ] at hae haa
      rw [← eq_nat] at haa
      have HM := Lib.hid hM
      have HA := Lib.hid haa
      clear hM hZ haa
      go_wp2_with fail
      refine (line_any 2 O N T j l false _ _ hsr n12 (by omega) (by omega) (by omega)).mono ?_
      rintro e w4 ⟨rfl, hf4⟩
      rw [← HM.out]
      have hfr4 := hfr.tr hf4
      clear b0 b1 b2 b3 b4 hf4
      cases hz : ((Z : Int) == (M : Int)) with
      | true =>
        go_wp2_with fail
        go_ret
        refine ⟨?_, hff.tr hfr4⟩
        rw [HY.out.1]
        have : anyN O (fun r => allN N fun i => !lineP T r false i || Y.testBit i) = true := anyN_iff.2 ⟨j, hlt, by rw [← HA.out, hz]⟩
        rw [this]
        rfl
      | false =>
        have HZ := Lib.hid hz
        go_wp2_with fail
        go_roundg (O - (j + 1))
        case measure => have := HJ.out; omega
        case rel => exact ⟨j + 1, by have := HJ.out; omega, by go_num, by simp only [anyN]; rw [HJ.out.2, ← HA.out, HZ.out]; rfl, hfr4⟩
    · obtain rfl : j = O := by omega
      go_wp2_with fail
      go_ret
      refine ⟨?_, hff.tr hfr⟩
      rw [HY.out.1, HJ.out.2]
      rfl

set_option maxRecDepth 100000 in
set_option maxHeartbeats 4000000 in
theorem first_three (o t : Int) (l : List Int) (n1 : 1 ≤ l.length) (n12 : l.length ≤ 12) (b : l.any badS = false) (s : Value) (X : Nat) (hX : X < 4294967296) (w : World) (hs : Ints w s l) (hl : l.length ≤ 1000) :
    Calls Try.prog 36 #[.agg #[.int .i64 3, .int .i64 l.length, .int .i64 o, .int .i64 t, s], .int .u32 X] w fun e w' => e = .returned (.bool (quo ⟨3, l.length, o, t, l⟩ false (X % 2 ^ l.length).testBit)) ∧ Fr (fun _ => False) w w' := by
  have HC := Lib.hid (right_any ⟨3, l.length, o, t, l⟩ s)
  have HE := Lib.hid (Ok.three o t l n1 n12 b).right
  have hs0 := hs
  obtain ⟨A, c, rfl, -⟩ := hs0
  obtain ⟨w1, hw1⟩ : ∃ w1, w1 = w.alloc (.cells #[.int .i64 3, .int .i64 l.length, .int .i64 o, .int .i64 t, .slice A l.length c] 24) := ⟨_, rfl⟩
  obtain ⟨q0, hq0⟩ : ∃ q0, q0 = w.heap.size := ⟨_, rfl⟩
  have hf : Fr (fun _ => False) w w1 := by rw [hw1]; exact (Fr.refl _ w).alloc _
  have hb : Blk w1 q0 24 #[.int .i64 3, .int .i64 l.length, .int .i64 o, .int .i64 t, .slice A l.length c] := by rw [hw1, hq0]; exact Blk.new _ _ _
  have HW := Lib.hid hw1
  have HQ := Lib.hid hq0
  have HF := Lib.hid (And.intro hf (hs.up hf))
  have b0 := hb.cell 0 rfl
  have b1 := hb.cell 1 rfl
  have b2 := hb.cell 2 rfl
  have b3 := hb.cell 3 rfl
  have b4 := hb.cell 4 rfl
  obtain ⟨K, hp2, hK1, hK2, hcut⟩ := cut_eq' l.length X (by omega) hX
  have hY := cut_lt l.length X (by omega)
  obtain ⟨Y, hYe⟩ : ∃ Y, Y = X % 2 ^ l.length := ⟨_, rfl⟩
  rw [← hYe] at hcut hY
  have hc12 : cnt 12 Y.testBit = cnt l.length X.testBit := by rw [hYe]; exact cnt_cut _ _ (by omega)
  have hcn : cnt l.length Y.testBit = cnt l.length X.testBit := by rw [hYe]; exact cnt_congr fun i hi => cut_bit _ X i hi
  have hq := (show quo ⟨3, l.length, o, t, l⟩ false (X % 2 ^ l.length).testBit = allN l.length (fun j => anyN l.length fun i => decide (l[i]? = l[j]?) && (X % 2 ^ l.length).testBit i) by unfold quo; rw [if_neg (by simp), if_neg (by simp)]; rfl)
  rw [hYe.symm] at hq
  have HY := Lib.hid (And.intro hq (And.intro hc12 hcn))
  rw [← hYe]
  simp only [Qu.v] at HC
  clear hf hs hw1 hq0 hYe hc12 hq hcn
  go_enter Try.func36, Try.ntmps36
  go_upto_region 1 with (fail)
  rw [← HW.out, ← HQ.out]
  clear HW HQ
  go_wp2_with fail
  refine (HC.out w1 HF.out.2 (by omega)).mono ?_
  rintro e w2 ⟨rfl, hf2⟩
  rw [HE.out]
  have hb2 := hb.fr hf2 (fun h => h)
  have hff := HF.out.1.tr hf2
  have hs2 := HF.out.2.up hf2
  clear b0 b1 b2 b3 b4 hf2 hb HF HC
  have b0 := hb2.cell 0 rfl
  have b1 := hb2.cell 1 rfl
  have b2 := hb2.cell 2 rfl
  have b3 := hb2.cell 3 rfl
  have b4 := hb2.cell 4 rfl
  go_wp2_with fail
  rw [hp2]
  go_loopg [46] l.length (fun g x46 wr => ∃ (j : Nat), j + g = l.length ∧ x46 = .int .i64 j ∧ allN j (fun j => anyN l.length fun i => decide (l[i]? = l[j]?) && Y.testBit i) = true ∧ Fr (fun _ => False) w2 wr)
  case atStart => exact ⟨0, by omega, rfl, rfl, Fr.refl _ _⟩
  case round =>
    obtain ⟨j, hj, rfl, hno, hfr⟩ := hrel
    have HJ := Lib.hid (And.intro hj hno)
    have hj' : j ≤ l.length := by omega
    clear hj hno b0 b1 b2 b3 b4
    have hbr := hb2.fr hfr (fun h => h)
    have hsr := hs2.up hfr
    have b0 := hbr.cell 0 rfl
    have b1 := hbr.cell 1 rfl
    have b2 := hbr.cell 2 rfl
    have b3 := hbr.cell 3 rfl
    have b4 := hbr.cell 4 rfl
    by_cases hlt : j < l.length
    · obtain ⟨y, hy⟩ : ∃ y, l[j]? = some y := ⟨_, List.getElem?_eq_getElem hlt⟩
      have hsr0 := hsr
      obtain ⟨A', c', hA, h2⟩ := hsr0
      obtain ⟨bb, off, rfl, h3⟩ := h2 (by rintro rfl; simp at hlt)
      injection hA with hA1 _ hA3
      subst hA1 hA3
      have g0 := h3 j y hy
      clear h2 h3
      have hml := mask_lt12 (n := l.length) n12 (siteP l y)
      have hae := and_eq Y _ hY hml
      have haa := and_none l.length Y (siteP l y)
      obtain ⟨M, hM⟩ : ∃ M, M = mask l.length (siteP l y) := ⟨_, rfl⟩
      rw [← hM] at hml hae haa
      obtain ⟨Z, hZ⟩ : ∃ Z, Z = Y &&& M := ⟨_, rfl⟩
      rw [← hZ] at hae haa
      rw [← eq_nat] at haa
      unfold siteP at haa
      rw [← hy] at haa
      have HM := Lib.hid hM
      have HA := Lib.hid haa
      clear hM hZ haa hy
      go_wp2_with fail
      refine (site_any 3 l.length o t y l _ _ hsr n12).mono ?_
      rintro e w4 ⟨rfl, hf4⟩
      rw [← HM.out]
      have hfr4 := hfr.tr hf4
      clear b0 b1 b2 b3 b4 hf4 g0
      cases hz : ((Z : Int) == ((0 : Nat) : Int)) with
      | true =>
        have HZ := Lib.hid hz
        have hz' : Z = 0 := by simpa using hz
        go_wp2_with fail
        go_ret
        refine ⟨?_, hff.tr hfr4⟩
        rw [HY.out.1]
        have : allN l.length (fun j => anyN l.length fun i => decide (l[i]? = l[j]?) && Y.testBit i) = false := by
          rw [Bool.eq_false_iff]
          intro h
          have h1 := allN_iff.1 h j hlt
          have h2 := HA.out
          rw [HZ.out, h1] at h2
          cases h2
        rw [this]
        rfl
      | false =>
        have HZ := Lib.hid hz
        have hz' : ((Z : Int) == 0) = false := hz
        go_wp2_with fail
        go_roundg (l.length - (j + 1))
        case measure => have := HJ.out; omega
        case rel =>
          refine ⟨j + 1, by have := HJ.out; omega, by go_num, ?_, hfr4⟩
          simp only [allN]
          rw [HJ.out.2]
          have h2 := HA.out
          rw [HZ.out] at h2
          simpa using h2.symm
    · obtain rfl : j = l.length := by omega
      go_wp2_with fail
      go_ret
      refine ⟨?_, hff.tr hfr⟩
      rw [HY.out.1, HJ.out.2]
      rfl

theorem first_any (q : Qu) (s : Value) (X : Nat) (hX : X < 4294967296) (w : World) (hs : Ints w s q.s) (hl : q.s.length ≤ 1000) :
    Calls Try.prog 36 #[q.v s, .int .u32 X] w fun e w' => e = .returned (.bool (isQ q false X.testBit)) ∧ Fr (fun _ => False) w w' := by
  by_cases h : rightE q = 0
  · have ho := ok_of h
    have e : isQ q false X.testBit = quo q false (X % 2 ^ q.n.toNat).testBit := by
      unfold isQ okQ
      rw [h]
      show (true && _) = _
      rw [Bool.true_and]
      exact quo_congr fun i hi => (cut_bit _ X i hi).symm
    rw [e]
    cases ho with
    | one N O T l n1 n12 o1 oN t1 tN m => exact first_one N O T l n1 n12 o1 oN t1 tN m s X hX w hs hl
    | two N O T l n1 n12 o1 oN t1 tN m => exact first_two N O T l n1 n12 o1 oN t1 tN m s X hX w hs hl
    | three o t l n1 n12 b => exact first_three o t l n1 n12 b s X hX w hs hl
  · have e : isQ q false X.testBit = false := by
      unfold isQ okQ
      rw [show (rightE q == 0) = false by simp [h]]
      rfl
    rw [e]
    exact first_bad q s X w hs hl h

set_option maxRecDepth 100000 in
set_option maxHeartbeats 4000000 in
theorem second_bad (q : Qu) (s : Value) (X : Nat) (w : World) (hs : Ints w s q.s) (hl : q.s.length ≤ 1000) (h : ¬ rightE q = 0) :
    Calls Try.prog 38 #[q.v s, .int .u32 X] w fun e w' => e = .returned (.bool false) ∧ Fr (fun _ => False) w w' := by
  have HC := Lib.hid (right_any q s)
  obtain ⟨k, n, o, t, l⟩ := q
  have hs0 := hs
  obtain ⟨A, c, rfl, -⟩ := hs0
  have hf := (Fr.refl (fun _ => False) w).alloc (.cells #[.int .i64 k, .int .i64 n, .int .i64 o, .int .i64 t, .slice A l.length c] 24)
  have HF := Lib.hid (And.intro hf (hs.up hf))
  simp only [Qu.v] at hl HC ⊢
  have h' : (rightE ⟨k, n, o, t, l⟩ == 0) = false := by simp [h]
  clear hf hs h
  go_enter Try.func38, Try.ntmps38
  go_wp2_with fail
  refine (HC.out _ HF.out.2 hl).mono ?_
  rintro e w2 ⟨rfl, hf2⟩
  go_wp2_with fail
  go_ret
  exact ⟨rfl, HF.out.1.tr hf2⟩

set_option maxRecDepth 100000 in
set_option maxHeartbeats 4000000 in
theorem second_one (N O T : Nat) (l : List Int) (n1 : 1 ≤ N) (n12 : N ≤ 12) (o1 : 1 ≤ O) (oN : O ≤ N) (t1 : 1 ≤ T) (tN : T ≤ N) (m : N < O + T) (s : Value) (X : Nat) (hX : X < 4294967296) (w : World) (hs : Ints w s l) (hl : l.length ≤ 1000) :
    Calls Try.prog 38 #[.agg #[.int .i64 1, .int .i64 N, .int .i64 O, .int .i64 T, s], .int .u32 X] w fun e w' => e = .returned (.bool (quo ⟨1, N, O, T, l⟩ true (X % 2 ^ N).testBit)) ∧ Fr (fun _ => False) w w' := by
  have HC := Lib.hid (right_any ⟨1, N, O, T, l⟩ s)
  have HE := Lib.hid (Ok.one N O T l n1 n12 o1 oN t1 tN m).right
  have hs0 := hs
  obtain ⟨A, c, rfl, -⟩ := hs0
  obtain ⟨w1, hw1⟩ : ∃ w1, w1 = w.alloc (.cells #[.int .i64 1, .int .i64 N, .int .i64 O, .int .i64 T, .slice A l.length c] 24) := ⟨_, rfl⟩
  obtain ⟨q0, hq0⟩ : ∃ q0, q0 = w.heap.size := ⟨_, rfl⟩
  have hf : Fr (fun _ => False) w w1 := by rw [hw1]; exact (Fr.refl _ w).alloc _
  have hb : Blk w1 q0 24 #[.int .i64 1, .int .i64 N, .int .i64 O, .int .i64 T, .slice A l.length c] := by rw [hw1, hq0]; exact Blk.new _ _ _
  have HW := Lib.hid hw1
  have HQ := Lib.hid hq0
  have HF := Lib.hid (And.intro hf (hs.up hf))
  have b0 := hb.cell 0 rfl
  have b1 := hb.cell 1 rfl
  have b2 := hb.cell 2 rfl
  have b3 := hb.cell 3 rfl
  have b4 := hb.cell 4 rfl
  obtain ⟨K, hp2, hK1, hK2, hcut⟩ := cut_eq' N X (by omega) hX
  have hY := cut_lt N X (by omega)
  obtain ⟨Y, hYe⟩ : ∃ Y, Y = X % 2 ^ N := ⟨_, rfl⟩
  rw [← hYe] at hcut hY
  have hc12 : cnt 12 Y.testBit = cnt N X.testBit := by rw [hYe]; exact cnt_cut _ _ (by omega)
  have hcn : cnt N Y.testBit = cnt N X.testBit := by rw [hYe]; exact cnt_congr fun i hi => cut_bit _ X i hi
  have hq := (show quo ⟨1, N, O, T, l⟩ true (X % 2 ^ N).testBit = decide (((T : Nat) : Int) ≤ (cnt N (X % 2 ^ N).testBit : Int)) by unfold quo; rw [if_pos rfl]; rfl)
  rw [hYe.symm] at hq
  have HY := Lib.hid (And.intro hq (And.intro hc12 hcn))
  rw [← hYe]
  simp only [Qu.v] at HC
  clear hf hs hw1 hq0 hYe hc12 hq hcn
  go_enter Try.func38, Try.ntmps38
  go_upto_region 1 with (fail)
  rw [← HW.out, ← HQ.out]
  clear HW HQ
  go_wp2_with fail
  refine (HC.out w1 HF.out.2 (by omega)).mono ?_
  rintro e w2 ⟨rfl, hf2⟩
  rw [HE.out]
  have hb2 := hb.fr hf2 (fun h => h)
  have hff := HF.out.1.tr hf2
  have hs2 := HF.out.2.up hf2
  clear b0 b1 b2 b3 b4 hf2 hb HF HC
  have b0 := hb2.cell 0 rfl
  have b1 := hb2.cell 1 rfl
  have b2 := hb2.cell 2 rfl
  have b3 := hb2.cell 3 rfl
  have b4 := hb2.cell 4 rfl
  go_wp2_with fail
  go_quiet ((go_at_call 58; exact Calls.quiet_of (ones_any Y hY _)))
  go_wp2_with fail
  go_ret
  refine ⟨?_, hff.drewN _⟩
  rw [HY.out.1, HY.out.2.2, ← HY.out.2.1]
  show Ending.returned (.bool (decide (T ≤ cnt 12 Y.testBit))) = _
  congr 2
  rw [decide_eq_decide]
  omega

set_option maxRecDepth 100000 in
set_option maxHeartbeats 4000000 in
theorem second_two (N O T : Nat) (l : List Int) (n1 : 1 ≤ N) (n12 : N ≤ 12) (o1 : 1 ≤ O) (oN : O ≤ N) (t1 : 1 ≤ T) (tN : T ≤ N) (m : O * T = N) (s : Value) (X : Nat) (hX : X < 4294967296) (w : World) (hs : Ints w s l) (hl : l.length ≤ 1000) :
    Calls Try.prog 38 #[.agg #[.int .i64 2, .int .i64 N, .int .i64 O, .int .i64 T, s], .int .u32 X] w fun e w' => e = .returned (.bool (quo ⟨2, N, O, T, l⟩ true (X % 2 ^ N).testBit)) ∧ Fr (fun _ => False) w w' := by
  have HC := Lib.hid (right_any ⟨2, N, O, T, l⟩ s)
  have HE := Lib.hid (Ok.two N O T l n1 n12 o1 oN t1 tN m).right
  have hs0 := hs
  obtain ⟨A, c, rfl, -⟩ := hs0
  obtain ⟨w1, hw1⟩ : ∃ w1, w1 = w.alloc (.cells #[.int .i64 2, .int .i64 N, .int .i64 O, .int .i64 T, .slice A l.length c] 24) := ⟨_, rfl⟩
  obtain ⟨q0, hq0⟩ : ∃ q0, q0 = w.heap.size := ⟨_, rfl⟩
  have hf : Fr (fun _ => False) w w1 := by rw [hw1]; exact (Fr.refl _ w).alloc _
  have hb : Blk w1 q0 24 #[.int .i64 2, .int .i64 N, .int .i64 O, .int .i64 T, .slice A l.length c] := by rw [hw1, hq0]; exact Blk.new _ _ _
  have HW := Lib.hid hw1
  have HQ := Lib.hid hq0
  have HF := Lib.hid (And.intro hf (hs.up hf))
  have b0 := hb.cell 0 rfl
  have b1 := hb.cell 1 rfl
  have b2 := hb.cell 2 rfl
  have b3 := hb.cell 3 rfl
  have b4 := hb.cell 4 rfl
  obtain ⟨K, hp2, hK1, hK2, hcut⟩ := cut_eq' N X (by omega) hX
  have hY := cut_lt N X (by omega)
  obtain ⟨Y, hYe⟩ : ∃ Y, Y = X % 2 ^ N := ⟨_, rfl⟩
  rw [← hYe] at hcut hY
  have hc12 : cnt 12 Y.testBit = cnt N X.testBit := by rw [hYe]; exact cnt_cut _ _ (by omega)
  have hcn : cnt N Y.testBit = cnt N X.testBit := by rw [hYe]; exact cnt_congr fun i hi => cut_bit _ X i hi
  have hq := (show quo ⟨2, N, O, T, l⟩ true (X % 2 ^ N).testBit = anyN T (fun r => allN N fun i => !lineP T r true i || (X % 2 ^ N).testBit i) by unfold quo; rw [if_neg (by simp), if_pos rfl]; rfl)
  rw [hYe.symm] at hq
  have HY := Lib.hid (And.intro hq (And.intro hc12 hcn))
  rw [← hYe]
  simp only [Qu.v] at HC
  clear hf hs hw1 hq0 hYe hc12 hq hcn
  go_enter Try.func38, Try.ntmps38
  go_upto_region 1 with (fail)
  rw [← HW.out, ← HQ.out]
  clear HW HQ
  go_wp2_with fail
  refine (HC.out w1 HF.out.2 (by omega)).mono ?_
  rintro e w2 ⟨rfl, hf2⟩
  rw [HE.out]
  have hb2 := hb.fr hf2 (fun h => h)
  have hff := HF.out.1.tr hf2
  have hs2 := HF.out.2.up hf2
  clear b0 b1 b2 b3 b4 hf2 hb HF HC
  have b0 := hb2.cell 0 rfl
  have b1 := hb2.cell 1 rfl
  have b2 := hb2.cell 2 rfl
  have b3 := hb2.cell 3 rfl
  have b4 := hb2.cell 4 rfl
  go_wp2_with fail
  rw [hp2]
  go_loopg [32] T (fun g x32 wr => ∃ (j : Nat), j + g = T ∧ x32 = .int .i64 j ∧ anyN j (fun r => allN N fun i => !lineP T r true i || Y.testBit i) = false ∧ Fr (fun _ => False) w2 wr)
  case atStart => exact ⟨0, by omega, rfl, rfl, Fr.refl _ _⟩
  case round =>
    obtain ⟨j, hj, rfl, hno, hfr⟩ := hrel
    have HJ := Lib.hid (And.intro hj hno)
    have hj' : j ≤ T := by omega
    clear hj hno b0 b1 b2 b3 b4
    have hbr := hb2.fr hfr (fun h => h)
    have hsr := hs2.up hfr
    have b0 := hbr.cell 0 rfl
    have b1 := hbr.cell 1 rfl
    have b2 := hbr.cell 2 rfl
    have b3 := hbr.cell 3 rfl
    have b4 := hbr.cell 4 rfl
    by_cases hlt : j < T
    · have hml := mask_lt12 (n := N) n12 (lineP T j true)
      have hae := and_eq Y _ hY hml
      have haa := and_all N Y (lineP T j true)
      obtain ⟨M, hM⟩ : ∃ M, M = mask N (lineP T j true) := ⟨_, rfl⟩
      rw [← hM] at hml hae haa
      obtain ⟨Z, hZ⟩ : ∃ Z, Z = Y &&& M := ⟨_, rfl⟩
      rw [← hZ] at hae haa
      rw [← eq_nat] at haa
      have HM := Lib.hid hM
      have HA := Lib.hid haa
      clear hM hZ haa
      go_wp2_with fail
      refine (line_any 2 O N T j l true _ _ hsr n12 (by omega) (by omega) (by omega)).mono ?_
      rintro e w4 ⟨rfl, hf4⟩
      rw [← HM.out]
      have hfr4 := hfr.tr hf4
      clear b0 b1 b2 b3 b4 hf4
      cases hz : ((Z : Int) == (M : Int)) with
      | true =>
        go_wp2_with fail
        go_ret
        refine ⟨?_, hff.tr hfr4⟩
        rw [HY.out.1]
        have : anyN T (fun r => allN N fun i => !lineP T r true i || Y.testBit i) = true := anyN_iff.2 ⟨j, hlt, by rw [← HA.out, hz]⟩
        rw [this]
        rfl
      | false =>
        have HZ := Lib.hid hz
        go_wp2_with fail
        go_roundg (T - (j + 1))
        case measure => have := HJ.out; omega
        case rel => exact ⟨j + 1, by have := HJ.out; omega, by go_num, by simp only [anyN]; rw [HJ.out.2, ← HA.out, HZ.out]; rfl, hfr4⟩
    · obtain rfl : j = T := by omega
      go_wp2_with fail
      go_ret
      refine ⟨?_, hff.tr hfr⟩
      rw [HY.out.1, HJ.out.2]
      rfl

set_option maxRecDepth 100000 in
set_option maxHeartbeats 4000000 in
theorem second_three (o t : Int) (l : List Int) (n1 : 1 ≤ l.length) (n12 : l.length ≤ 12) (b : l.any badS = false) (s : Value) (X : Nat) (hX : X < 4294967296) (w : World) (hs : Ints w s l) (hl : l.length ≤ 1000) :
    Calls Try.prog 38 #[.agg #[.int .i64 3, .int .i64 l.length, .int .i64 o, .int .i64 t, s], .int .u32 X] w fun e w' => e = .returned (.bool (quo ⟨3, l.length, o, t, l⟩ true (X % 2 ^ l.length).testBit)) ∧ Fr (fun _ => False) w w' := by
  have HC := Lib.hid (right_any ⟨3, l.length, o, t, l⟩ s)
  have HE := Lib.hid (Ok.three o t l n1 n12 b).right
  have hs0 := hs
  obtain ⟨A, c, rfl, -⟩ := hs0
  obtain ⟨w1, hw1⟩ : ∃ w1, w1 = w.alloc (.cells #[.int .i64 3, .int .i64 l.length, .int .i64 o, .int .i64 t, .slice A l.length c] 24) := ⟨_, rfl⟩
  obtain ⟨q0, hq0⟩ : ∃ q0, q0 = w.heap.size := ⟨_, rfl⟩
  have hf : Fr (fun _ => False) w w1 := by rw [hw1]; exact (Fr.refl _ w).alloc _
  have hb : Blk w1 q0 24 #[.int .i64 3, .int .i64 l.length, .int .i64 o, .int .i64 t, .slice A l.length c] := by rw [hw1, hq0]; exact Blk.new _ _ _
  have HW := Lib.hid hw1
  have HQ := Lib.hid hq0
  have HF := Lib.hid (And.intro hf (hs.up hf))
  have b0 := hb.cell 0 rfl
  have b1 := hb.cell 1 rfl
  have b2 := hb.cell 2 rfl
  have b3 := hb.cell 3 rfl
  have b4 := hb.cell 4 rfl
  obtain ⟨K, hp2, hK1, hK2, hcut⟩ := cut_eq' l.length X (by omega) hX
  have hY := cut_lt l.length X (by omega)
  obtain ⟨Y, hYe⟩ : ∃ Y, Y = X % 2 ^ l.length := ⟨_, rfl⟩
  rw [← hYe] at hcut hY
  have hc12 : cnt 12 Y.testBit = cnt l.length X.testBit := by rw [hYe]; exact cnt_cut _ _ (by omega)
  have hcn : cnt l.length Y.testBit = cnt l.length X.testBit := by rw [hYe]; exact cnt_congr fun i hi => cut_bit _ X i hi
  have hq := (show quo ⟨3, l.length, o, t, l⟩ true (X % 2 ^ l.length).testBit = anyN l.length (fun j => allN l.length fun i => !decide (l[i]? = l[j]?) || (X % 2 ^ l.length).testBit i) by unfold quo; rw [if_neg (by simp), if_neg (by simp)]; rfl)
  rw [hYe.symm] at hq
  have HY := Lib.hid (And.intro hq (And.intro hc12 hcn))
  rw [← hYe]
  simp only [Qu.v] at HC
  clear hf hs hw1 hq0 hYe hc12 hq hcn
  go_enter Try.func38, Try.ntmps38
  go_upto_region 1 with (fail)
  rw [← HW.out, ← HQ.out]
  clear HW HQ
  go_wp2_with fail
  refine (HC.out w1 HF.out.2 (by omega)).mono ?_
  rintro e w2 ⟨rfl, hf2⟩
  rw [HE.out]
  have hb2 := hb.fr hf2 (fun h => h)
  have hff := HF.out.1.tr hf2
  have hs2 := HF.out.2.up hf2
  clear b0 b1 b2 b3 b4 hf2 hb HF HC
  have b0 := hb2.cell 0 rfl
  have b1 := hb2.cell 1 rfl
  have b2 := hb2.cell 2 rfl
  have b3 := hb2.cell 3 rfl
  have b4 := hb2.cell 4 rfl
  go_wp2_with fail
  rw [hp2]
  go_loopg [47] l.length (fun g x47 wr => ∃ (j : Nat), j + g = l.length ∧ x47 = .int .i64 j ∧ anyN j (fun j => allN l.length fun i => !decide (l[i]? = l[j]?) || Y.testBit i) = false ∧ Fr (fun _ => False) w2 wr)
  case atStart => exact ⟨0, by omega, rfl, rfl, Fr.refl _ _⟩
  case round =>
    obtain ⟨j, hj, rfl, hno, hfr⟩ := hrel
    have HJ := Lib.hid (And.intro hj hno)
    have hj' : j ≤ l.length := by omega
    clear hj hno b0 b1 b2 b3 b4
    have hbr := hb2.fr hfr (fun h => h)
    have hsr := hs2.up hfr
    have b0 := hbr.cell 0 rfl
    have b1 := hbr.cell 1 rfl
    have b2 := hbr.cell 2 rfl
    have b3 := hbr.cell 3 rfl
    have b4 := hbr.cell 4 rfl
    by_cases hlt : j < l.length
    · obtain ⟨y, hy⟩ : ∃ y, l[j]? = some y := ⟨_, List.getElem?_eq_getElem hlt⟩
      have hsr0 := hsr
      obtain ⟨A', c', hA, h2⟩ := hsr0
      obtain ⟨bb, off, rfl, h3⟩ := h2 (by rintro rfl; simp at hlt)
      injection hA with hA1 _ hA3
      subst hA1 hA3
      have g0 := h3 j y hy
      clear h2 h3
      have hml := mask_lt12 (n := l.length) n12 (siteP l y)
      have hae := and_eq Y _ hY hml
      have haa := and_all l.length Y (siteP l y)
      obtain ⟨M, hM⟩ : ∃ M, M = mask l.length (siteP l y) := ⟨_, rfl⟩
      rw [← hM] at hml hae haa
      obtain ⟨Z, hZ⟩ : ∃ Z, Z = Y &&& M := ⟨_, rfl⟩
      rw [← hZ] at hae haa
      rw [← eq_nat] at haa
      unfold siteP at haa
      rw [← hy] at haa
      have HM := Lib.hid hM
      have HA := Lib.hid haa
      clear hM hZ haa hy
      go_wp2_with fail
      refine (site_any 3 l.length o t y l _ _ hsr n12).mono ?_
      rintro e w4 ⟨rfl, hf4⟩
      rw [← HM.out]
      have hfr4 := hfr.tr hf4
      clear b0 b1 b2 b3 b4 hf4 g0
      cases hz : ((Z : Int) == ((M : Nat) : Int)) with
      | true =>
        have HZ := Lib.hid hz
        go_wp2_with fail
        go_ret
        refine ⟨?_, hff.tr hfr4⟩
        rw [HY.out.1]
        have : anyN l.length (fun j => allN l.length fun i => !decide (l[i]? = l[j]?) || Y.testBit i) = true := anyN_iff.2 ⟨j, hlt, by rw [← HA.out, HZ.out]⟩
        rw [this]
        rfl
      | false =>
        have HZ := Lib.hid hz
        go_wp2_with fail
        go_roundg (l.length - (j + 1))
        case measure => have := HJ.out; omega
        case rel => exact ⟨j + 1, by have := HJ.out; omega, by go_num, by simp only [anyN]; rw [HJ.out.2, ← HA.out, HZ.out]; rfl, hfr4⟩
    · obtain rfl : j = l.length := by omega
      go_wp2_with fail
      go_ret
      refine ⟨?_, hff.tr hfr⟩
      rw [HY.out.1, HJ.out.2]
      rfl

theorem second_any (q : Qu) (s : Value) (X : Nat) (hX : X < 4294967296) (w : World) (hs : Ints w s q.s) (hl : q.s.length ≤ 1000) :
    Calls Try.prog 38 #[q.v s, .int .u32 X] w fun e w' => e = .returned (.bool (isQ q true X.testBit)) ∧ Fr (fun _ => False) w w' := by
  by_cases h : rightE q = 0
  · have ho := ok_of h
    have e : isQ q true X.testBit = quo q true (X % 2 ^ q.n.toNat).testBit := by
      unfold isQ okQ
      rw [h]
      show (true && _) = _
      rw [Bool.true_and]
      exact quo_congr fun i hi => (cut_bit _ X i hi).symm
    rw [e]
    cases ho with
    | one N O T l n1 n12 o1 oN t1 tN m => exact second_one N O T l n1 n12 o1 oN t1 tN m s X hX w hs hl
    | two N O T l n1 n12 o1 oN t1 tN m => exact second_two N O T l n1 n12 o1 oN t1 tN m s X hX w hs hl
    | three o t l n1 n12 b => exact second_three o t l n1 n12 b s X hX w hs hl
  · have e : isQ q true X.testBit = false := by
      unfold isQ okQ
      rw [show (rightE q == 0) = false by simp [h]]
      rfl
    rw [e]
    exact second_bad q s X w hs hl h

end Go.Proofs.Ytliljjlegofmkaa
