/- The document's Is. -/
import Derived.Test.YtliljjlegofmkaaQT
import Derived.Deep.QuietTactic
namespace Go.Proofs.Ytliljjlegofmkaa
open Go.RowKit

/-- Two nodes of one group: the grid's, the sites'. -/
def grp (sec : Bool) (T : Nat) (i : Nat) : Int := ((if sec then i % T else i / T : Nat) : Int)
theorem two_eq (N O T : Nat) (l : List Int) (sec : Bool) (p : Nat → Bool) (t1 : 1 ≤ T) (oN : O ≤ N) (tN : T ≤ N) (m : O * T = N) :
    (anyN N fun i => allN N fun j => !decide (grp sec T j = grp sec T i) || p j) = quo ⟨2, N, O, T, l⟩ sec p := by
  have _u := oN
  clear _u
  unfold quo
  rw [if_neg (by simp), if_pos rfl, Bool.eq_iff_iff]
  cases sec with
  | true =>
    simp only [if_true, Int.toNat_natCast]
    rw [anyN_iff, anyN_iff]
    constructor
    · rintro ⟨i, hi, h⟩
      refine ⟨i % T, Nat.mod_lt _ (by omega), allN_iff.2 fun j hj => ?_⟩
      have := allN_iff.1 h j hj
      simpa [grp] using this
    · rintro ⟨c, hc, h⟩
      refine ⟨c, by omega, allN_iff.2 fun j hj => ?_⟩
      have := allN_iff.1 h j hj
      simpa [grp, Nat.mod_eq_of_lt hc] using this
  | false =>
    simp only [Bool.false_eq_true, if_false, Int.toNat_natCast]
    rw [anyN_iff, anyN_iff]
    constructor
    · rintro ⟨i, hi, h⟩
      refine ⟨i / T, ?_, allN_iff.2 fun j hj => ?_⟩
      · rw [Nat.div_lt_iff_lt_mul (by omega)]; omega
      · have := allN_iff.1 h j hj
        simpa [grp] using this
    · rintro ⟨r, hr, h⟩
      have hlt : r * T < N := by
        rw [← m]
        have : (r + 1) * T ≤ O * T := Nat.mul_le_mul_right _ hr
        rw [Nat.add_mul] at this
        omega
      refine ⟨r * T, hlt, allN_iff.2 fun j hj => ?_⟩
      have := allN_iff.1 h j hj
      simpa [grp, Nat.mul_div_cancel _ (show 0 < T by omega)] using this
theorem three_eq (o t : Int) (l : List Int) (p : Nat → Bool) :
    (anyN l.length fun i => allN l.length fun j => !decide (l.getD j 0 = l.getD i 0) || p j) = quo ⟨3, l.length, o, t, l⟩ true p := by
  unfold quo
  rw [if_neg (by simp), if_neg (by simp)]
  simp only [if_true, Int.toNat_natCast]
  rw [Bool.eq_iff_iff, anyN_iff, anyN_iff]
  have e : ∀ i j, i < l.length → j < l.length → (decide (l.getD j 0 = l.getD i 0) = decide (l[j]? = l[i]?)) := fun i j hi hj => by
    simp [List.getD_eq_getElem?_getD, List.getElem?_eq_getElem hi, List.getElem?_eq_getElem hj]
  constructor
  · rintro ⟨i, hi, h⟩
    exact ⟨i, hi, allN_iff.2 fun j hj => by rw [← e i j hi hj]; exact allN_iff.1 h j hj⟩
  · rintro ⟨i, hi, h⟩
    exact ⟨i, hi, allN_iff.2 fun j hj => by rw [e i j hi hj]; exact allN_iff.1 h j hj⟩

set_option maxRecDepth 100000 in
set_option maxHeartbeats 4000000 in
theorem ris_bad (q : Qu) (sec : Bool) (s : Value) (X : Nat) (w : World) (hs : Ints w s q.s) (hl : q.s.length ≤ 1000) (h : ¬ rightE q = 0) :
    Calls Try.prog 24 #[q.v s, .bool sec, .int .u32 X] w fun e w' => e = .returned (.bool false) ∧ Fr (fun _ => False) w w' := by
  have HC := Lib.hid (rright_any q s)
  obtain ⟨k, n, o, t, l⟩ := q
  have hs0 := hs
  obtain ⟨A, c, rfl, -⟩ := hs0
  have hf := (Fr.refl (fun _ => False) w).alloc (.cells #[.int .i64 k, .int .i64 n, .int .i64 o, .int .i64 t, .slice A l.length c] 24)
  have HF := Lib.hid (And.intro hf (hs.up hf))
  simp only [Qu.v] at hl HC ⊢
  have h' : (rightE ⟨k, n, o, t, l⟩ == 0) = false := by simp [h]
  have h2 : (rightE ⟨k, n, o, t, l⟩ != 0) = true := by unfold bne; rw [h']; rfl
  clear hf hs h
  go_enter Try.func24, Try.ntmps24
  go_wp2_with fail
  refine (HC.out _ HF.out.2 hl).mono ?_
  rintro e w2 ⟨rfl, hf2⟩
  go_wp2_with fail
  go_ret
  exact ⟨rfl, HF.out.1.tr hf2⟩
set_option maxRecDepth 100000 in
set_option maxHeartbeats 4000000 in
theorem ris_one_false (N O T : Nat) (l : List Int) (n1 : 1 ≤ N) (n12 : N ≤ 12) (o1 : 1 ≤ O) (oN : O ≤ N) (t1 : 1 ≤ T) (tN : T ≤ N) (m : N < O + T) (s : Value) (X : Nat) (hX : X < 4294967296) (w : World) (hs : Ints w s l) (hl : l.length ≤ 1000) :
    Calls Try.prog 24 #[.agg #[.int .i64 1, .int .i64 N, .int .i64 O, .int .i64 T, s], .bool false, .int .u32 X] w fun e w' => e = .returned (.bool (quo ⟨1, N, O, T, l⟩ false X.testBit)) ∧ Fr (fun _ => False) w w' := by
  have HC := Lib.hid (rright_any ⟨1, N, O, T, l⟩ s)
  have HE := Lib.hid (Ok.one N O T l n1 n12 o1 oN t1 tN m).right
  have hs0 := hs
  obtain ⟨A, c, rfl, -⟩ := hs0
  obtain ⟨w1, hw1⟩ : ∃ w1, w1 = w.alloc (.cells #[.int .i64 1, .int .i64 N, .int .i64 O, .int .i64 T, .slice A l.length c] 24) := ⟨_, rfl⟩
  obtain ⟨q0, hq0⟩ : ∃ q0, q0 = w.heap.size := ⟨_, rfl⟩
  have hf : Fr (fun _ => False) w w1 := by rw [hw1]; exact (Fr.refl _ w).alloc _
  have hb : Blk w1 q0 24 #[.int .i64 1, .int .i64 N, .int .i64 O, .int .i64 T, .slice A l.length c] := by rw [hw1, hq0]; exact Blk.new _ _ _
  have HW := Lib.hid hw1
  have HQ := Lib.hid hq0
  have HF := Lib.hid (And.intro hf (hs.up hf))
  obtain ⟨V, hV⟩ : ∃ V, V = quo ⟨1, N, O, T, l⟩ false X.testBit := ⟨_, rfl⟩
  rw [← hV]
  have HV := Lib.hid hV
  have b0 := hb.cell 0 rfl
  have b1 := hb.cell 1 rfl
  have b2 := hb.cell 2 rfl
  have b3 := hb.cell 3 rfl
  have b4 := hb.cell 4 rfl
  simp only [Qu.v] at HC
  clear hf hs hw1 hq0 hV
  go_enter Try.func24, Try.ntmps24
  go_upto_region 1 with (fail)
  rw [← HW.out, ← HQ.out]
  clear HW HQ
  go_wp2_with fail
  refine (HC.out w1 HF.out.2 (by omega)).mono ?_
  rintro e w2 ⟨rfl, hf2⟩
  rw [HE.out]
  have hb2 := hb.fr hf2 (fun h => h)
  have hff := HF.out.1.tr hf2
  have hs2 := HF.out.2.up hf2
  clear b0 b1 b2 b3 b4 hf2 hb HF HC
  have b0 := hb2.cell 0 rfl
  have b1 := hb2.cell 1 rfl
  have b2 := hb2.cell 2 rfl
  have b3 := hb2.cell 3 rfl
  have b4 := hb2.cell 4 rfl
  go_wp2_with fail
  go_quiet ((go_at_call 39; exact quiet_left (count_any X N hX (by omega) _)))
  go_wp2_with fail
  go_ret
  refine ⟨?_, hff.drewN _⟩
  rw [HV.out]
  unfold quo
  rw [if_pos rfl]
  show Ending.returned (.bool (decide (O ≤ cnt N X.testBit))) = _
  congr 2
  rw [decide_eq_decide]
  simp
set_option maxRecDepth 100000 in
set_option maxHeartbeats 4000000 in
theorem ris_one_true (N O T : Nat) (l : List Int) (n1 : 1 ≤ N) (n12 : N ≤ 12) (o1 : 1 ≤ O) (oN : O ≤ N) (t1 : 1 ≤ T) (tN : T ≤ N) (m : N < O + T) (s : Value) (X : Nat) (hX : X < 4294967296) (w : World) (hs : Ints w s l) (hl : l.length ≤ 1000) :
    Calls Try.prog 24 #[.agg #[.int .i64 1, .int .i64 N, .int .i64 O, .int .i64 T, s], .bool true, .int .u32 X] w fun e w' => e = .returned (.bool (quo ⟨1, N, O, T, l⟩ true X.testBit)) ∧ Fr (fun _ => False) w w' := by
  have HC := Lib.hid (rright_any ⟨1, N, O, T, l⟩ s)
  have HE := Lib.hid (Ok.one N O T l n1 n12 o1 oN t1 tN m).right
  have hs0 := hs
  obtain ⟨A, c, rfl, -⟩ := hs0
  obtain ⟨w1, hw1⟩ : ∃ w1, w1 = w.alloc (.cells #[.int .i64 1, .int .i64 N, .int .i64 O, .int .i64 T, .slice A l.length c] 24) := ⟨_, rfl⟩
  obtain ⟨q0, hq0⟩ : ∃ q0, q0 = w.heap.size := ⟨_, rfl⟩
  have hf : Fr (fun _ => False) w w1 := by rw [hw1]; exact (Fr.refl _ w).alloc _
  have hb : Blk w1 q0 24 #[.int .i64 1, .int .i64 N, .int .i64 O, .int .i64 T, .slice A l.length c] := by rw [hw1, hq0]; exact Blk.new _ _ _
  have HW := Lib.hid hw1
  have HQ := Lib.hid hq0
  have HF := Lib.hid (And.intro hf (hs.up hf))
  obtain ⟨V, hV⟩ : ∃ V, V = quo ⟨1, N, O, T, l⟩ true X.testBit := ⟨_, rfl⟩
  rw [← hV]
  have HV := Lib.hid hV
  have b0 := hb.cell 0 rfl
  have b1 := hb.cell 1 rfl
  have b2 := hb.cell 2 rfl
  have b3 := hb.cell 3 rfl
  have b4 := hb.cell 4 rfl
  simp only [Qu.v] at HC
  clear hf hs hw1 hq0 hV
  go_enter Try.func24, Try.ntmps24
  go_upto_region 1 with (fail)
  rw [← HW.out, ← HQ.out]
  clear HW HQ
  go_wp2_with fail
  refine (HC.out w1 HF.out.2 (by omega)).mono ?_
  rintro e w2 ⟨rfl, hf2⟩
  rw [HE.out]
  have hb2 := hb.fr hf2 (fun h => h)
  have hff := HF.out.1.tr hf2
  have hs2 := HF.out.2.up hf2
  clear b0 b1 b2 b3 b4 hf2 hb HF HC
  have b0 := hb2.cell 0 rfl
  have b1 := hb2.cell 1 rfl
  have b2 := hb2.cell 2 rfl
  have b3 := hb2.cell 3 rfl
  have b4 := hb2.cell 4 rfl
  go_wp2_with fail
  go_quiet ((go_at_call 39; exact quiet_left (count_any X N hX (by omega) _)))
  go_wp2_with fail
  go_ret
  refine ⟨?_, hff.drewN _⟩
  rw [HV.out]
  unfold quo
  rw [if_pos rfl]
  show Ending.returned (.bool (decide (T ≤ cnt N X.testBit))) = _
  congr 2
  rw [decide_eq_decide]
  simp
set_option maxRecDepth 100000 in
set_option maxHeartbeats 4000000 in
theorem ris_two_false (N O T : Nat) (l : List Int) (n1 : 1 ≤ N) (n12 : N ≤ 12) (o1 : 1 ≤ O) (oN : O ≤ N) (t1 : 1 ≤ T) (tN : T ≤ N) (m : O * T = N) (s : Value) (X : Nat) (hX : X < 4294967296) (w : World) (hs : Ints w s l) (hl : l.length ≤ 1000) :
    Calls Try.prog 24 #[.agg #[.int .i64 2, .int .i64 N, .int .i64 O, .int .i64 T, s], .bool false, .int .u32 X] w fun e w' => e = .returned (.bool (quo ⟨2, N, O, T, l⟩ false X.testBit)) ∧ Fr (fun _ => False) w w' := by
  have HC := Lib.hid (rright_any ⟨2, N, O, T, l⟩ s)
  have HE := Lib.hid (Ok.two N O T l n1 n12 o1 oN t1 tN m).right
  have hs0 := hs
  obtain ⟨A, c, rfl, -⟩ := hs0
  obtain ⟨w1, hw1⟩ : ∃ w1, w1 = w.alloc (.cells #[.int .i64 2, .int .i64 N, .int .i64 O, .int .i64 T, .slice A l.length c] 24) := ⟨_, rfl⟩
  obtain ⟨q0, hq0⟩ : ∃ q0, q0 = w.heap.size := ⟨_, rfl⟩
  have hf : Fr (fun _ => False) w w1 := by rw [hw1]; exact (Fr.refl _ w).alloc _
  have hb : Blk w1 q0 24 #[.int .i64 2, .int .i64 N, .int .i64 O, .int .i64 T, .slice A l.length c] := by rw [hw1, hq0]; exact Blk.new _ _ _
  have HW := Lib.hid hw1
  have HQ := Lib.hid hq0
  have HF := Lib.hid (And.intro hf (hs.up hf))
  obtain ⟨V, hV⟩ : ∃ V, V = quo ⟨2, N, O, T, l⟩ false X.testBit := ⟨_, rfl⟩
  rw [← hV]
  have HV := Lib.hid hV
  have b0 := hb.cell 0 rfl
  have b1 := hb.cell 1 rfl
  have b2 := hb.cell 2 rfl
  have b3 := hb.cell 3 rfl
  have b4 := hb.cell 4 rfl
  simp only [Qu.v] at HC
  clear hf hs hw1 hq0 hV
  go_enter Try.func24, Try.ntmps24
  go_upto_region 1 with (fail)
  rw [← HW.out, ← HQ.out]
  clear HW HQ
  go_wp2_with fail
  refine (HC.out w1 HF.out.2 (by omega)).mono ?_
  rintro e w2 ⟨rfl, hf2⟩
  rw [HE.out]
  have hb2 := hb.fr hf2 (fun h => h)
  have hff := HF.out.1.tr hf2
  have hs2 := HF.out.2.up hf2
  clear b0 b1 b2 b3 b4 hf2 hb HF HC
  have b0 := hb2.cell 0 rfl
  have b1 := hb2.cell 1 rfl
  have b2 := hb2.cell 2 rfl
  have b3 := hb2.cell 3 rfl
  have b4 := hb2.cell 4 rfl
  go_wp2_with fail
  go_loopg [9] N (fun g x9 wr => ∃ (j : Nat), j + g = N ∧ x9 = .int .i64 j ∧ anyN j (fun j => allN N fun j' => !decide (grp false T j' = grp false T j) || X.testBit j') = false ∧ Fr (fun _ => False) w2 wr)
  case atStart => exact ⟨0, by omega, rfl, rfl, Fr.refl _ _⟩
  case round =>
    obtain ⟨j, hj, rfl, hno, hfr⟩ := hrel
    have HJ := Lib.hid (And.intro hj hno)
    have hj' : j ≤ N := by omega
    clear hj hno b0 b1 b2 b3 b4
    have hbr := hb2.fr hfr (fun h => h)
    have hsr := hs2.up hfr
    have b0 := hbr.cell 0 rfl
    have b1 := hbr.cell 1 rfl
    have b2 := hbr.cell 2 rfl
    have b3 := hbr.cell 3 rfl
    have b4 := hbr.cell 4 rfl
    by_cases hlt : j < N
    · go_wp2_with fail
      refine (rwhole_any 2 O T N l false _ X j hX n12 hlt (grp false T) (fun i hi w hs => rgroup_two N O T i l false _ w hs t1 (by omega) (by omega)) _ hsr).mono ?_
      rintro e w4 ⟨rfl, hf4⟩
      have hfr4 := hfr.tr hf4
      obtain ⟨Z, hZ⟩ : ∃ Z, Z = allN N (fun j' => !decide (grp false T j' = grp false T j) || X.testBit j') := ⟨_, rfl⟩
      rw [← hZ]
      have HZ := Lib.hid hZ
      clear b0 b1 b2 b3 b4 hf4 hZ
      cases Z with
      | true =>
        go_wp2_with fail
        go_ret
        refine ⟨?_, hff.tr hfr4⟩
        rw [HV.out, ← two_eq _ O T l false X.testBit t1 oN tN m]
        rw [anyN_iff.2 ⟨j, hlt, HZ.out.symm⟩]
        rfl
      | false =>
        go_wp2_with fail
        go_roundg (N - (j + 1))
        case measure => have := HJ.out; omega
        case rel => exact ⟨j + 1, by have := HJ.out; omega, by go_num, by simp only [anyN]; rw [HJ.out.2, ← HZ.out]; rfl, hfr4⟩
    · obtain rfl : j = N := by omega
      go_wp2_with fail
      go_ret
      refine ⟨?_, hff.tr hfr⟩
      rw [HV.out, ← two_eq _ O T l false X.testBit t1 oN tN m, HJ.out.2]
      rfl
set_option maxRecDepth 100000 in
set_option maxHeartbeats 4000000 in
theorem ris_two_true (N O T : Nat) (l : List Int) (n1 : 1 ≤ N) (n12 : N ≤ 12) (o1 : 1 ≤ O) (oN : O ≤ N) (t1 : 1 ≤ T) (tN : T ≤ N) (m : O * T = N) (s : Value) (X : Nat) (hX : X < 4294967296) (w : World) (hs : Ints w s l) (hl : l.length ≤ 1000) :
    Calls Try.prog 24 #[.agg #[.int .i64 2, .int .i64 N, .int .i64 O, .int .i64 T, s], .bool true, .int .u32 X] w fun e w' => e = .returned (.bool (quo ⟨2, N, O, T, l⟩ true X.testBit)) ∧ Fr (fun _ => False) w w' := by
  have HC := Lib.hid (rright_any ⟨2, N, O, T, l⟩ s)
  have HE := Lib.hid (Ok.two N O T l n1 n12 o1 oN t1 tN m).right
  have hs0 := hs
  obtain ⟨A, c, rfl, -⟩ := hs0
  obtain ⟨w1, hw1⟩ : ∃ w1, w1 = w.alloc (.cells #[.int .i64 2, .int .i64 N, .int .i64 O, .int .i64 T, .slice A l.length c] 24) := ⟨_, rfl⟩
  obtain ⟨q0, hq0⟩ : ∃ q0, q0 = w.heap.size := ⟨_, rfl⟩
  have hf : Fr (fun _ => False) w w1 := by rw [hw1]; exact (Fr.refl _ w).alloc _
  have hb : Blk w1 q0 24 #[.int .i64 2, .int .i64 N, .int .i64 O, .int .i64 T, .slice A l.length c] := by rw [hw1, hq0]; exact Blk.new _ _ _
  have HW := Lib.hid hw1
  have HQ := Lib.hid hq0
  have HF := Lib.hid (And.intro hf (hs.up hf))
  obtain ⟨V, hV⟩ : ∃ V, V = quo ⟨2, N, O, T, l⟩ true X.testBit := ⟨_, rfl⟩
  rw [← hV]
  have HV := Lib.hid hV
  have b0 := hb.cell 0 rfl
  have b1 := hb.cell 1 rfl
  have b2 := hb.cell 2 rfl
  have b3 := hb.cell 3 rfl
  have b4 := hb.cell 4 rfl
  simp only [Qu.v] at HC
  clear hf hs hw1 hq0 hV
  go_enter Try.func24, Try.ntmps24
  go_upto_region 1 with (fail)
  rw [← HW.out, ← HQ.out]
  clear HW HQ
  go_wp2_with fail
  refine (HC.out w1 HF.out.2 (by omega)).mono ?_
  rintro e w2 ⟨rfl, hf2⟩
  rw [HE.out]
  have hb2 := hb.fr hf2 (fun h => h)
  have hff := HF.out.1.tr hf2
  have hs2 := HF.out.2.up hf2
  clear b0 b1 b2 b3 b4 hf2 hb HF HC
  have b0 := hb2.cell 0 rfl
  have b1 := hb2.cell 1 rfl
  have b2 := hb2.cell 2 rfl
  have b3 := hb2.cell 3 rfl
  have b4 := hb2.cell 4 rfl
  go_wp2_with fail
  go_loopg [9] N (fun g x9 wr => ∃ (j : Nat), j + g = N ∧ x9 = .int .i64 j ∧ anyN j (fun j => allN N fun j' => !decide (grp true T j' = grp true T j) || X.testBit j') = false ∧ Fr (fun _ => False) w2 wr)
  case atStart => exact ⟨0, by omega, rfl, rfl, Fr.refl _ _⟩
  case round =>
    obtain ⟨j, hj, rfl, hno, hfr⟩ := hrel
    have HJ := Lib.hid (And.intro hj hno)
    have hj' : j ≤ N := by omega
    clear hj hno b0 b1 b2 b3 b4
    have hbr := hb2.fr hfr (fun h => h)
    have hsr := hs2.up hfr
    have b0 := hbr.cell 0 rfl
    have b1 := hbr.cell 1 rfl
    have b2 := hbr.cell 2 rfl
    have b3 := hbr.cell 3 rfl
    have b4 := hbr.cell 4 rfl
    by_cases hlt : j < N
    · go_wp2_with fail
      refine (rwhole_any 2 O T N l true _ X j hX n12 hlt (grp true T) (fun i hi w hs => rgroup_two N O T i l true _ w hs t1 (by omega) (by omega)) _ hsr).mono ?_
      rintro e w4 ⟨rfl, hf4⟩
      have hfr4 := hfr.tr hf4
      obtain ⟨Z, hZ⟩ : ∃ Z, Z = allN N (fun j' => !decide (grp true T j' = grp true T j) || X.testBit j') := ⟨_, rfl⟩
      rw [← hZ]
      have HZ := Lib.hid hZ
      clear b0 b1 b2 b3 b4 hf4 hZ
      cases Z with
      | true =>
        go_wp2_with fail
        go_ret
        refine ⟨?_, hff.tr hfr4⟩
        rw [HV.out, ← two_eq _ O T l true X.testBit t1 oN tN m]
        rw [anyN_iff.2 ⟨j, hlt, HZ.out.symm⟩]
        rfl
      | false =>
        go_wp2_with fail
        go_roundg (N - (j + 1))
        case measure => have := HJ.out; omega
        case rel => exact ⟨j + 1, by have := HJ.out; omega, by go_num, by simp only [anyN]; rw [HJ.out.2, ← HZ.out]; rfl, hfr4⟩
    · obtain rfl : j = N := by omega
      go_wp2_with fail
      go_ret
      refine ⟨?_, hff.tr hfr⟩
      rw [HV.out, ← two_eq _ O T l true X.testBit t1 oN tN m, HJ.out.2]
      rfl
set_option maxRecDepth 100000 in
set_option maxHeartbeats 4000000 in
theorem ris_three_true (o t : Int) (l : List Int) (n1 : 1 ≤ l.length) (n12 : l.length ≤ 12) (b : l.any badS = false) (s : Value) (X : Nat) (hX : X < 4294967296) (w : World) (hs : Ints w s l) (hl : l.length ≤ 1000) :
    Calls Try.prog 24 #[.agg #[.int .i64 3, .int .i64 l.length, .int .i64 o, .int .i64 t, s], .bool true, .int .u32 X] w fun e w' => e = .returned (.bool (quo ⟨3, l.length, o, t, l⟩ true X.testBit)) ∧ Fr (fun _ => False) w w' := by
  have HC := Lib.hid (rright_any ⟨3, l.length, o, t, l⟩ s)
  have HE := Lib.hid (Ok.three o t l n1 n12 b).right
  have hs0 := hs
  obtain ⟨A, c, rfl, -⟩ := hs0
  obtain ⟨w1, hw1⟩ : ∃ w1, w1 = w.alloc (.cells #[.int .i64 3, .int .i64 l.length, .int .i64 o, .int .i64 t, .slice A l.length c] 24) := ⟨_, rfl⟩
  obtain ⟨q0, hq0⟩ : ∃ q0, q0 = w.heap.size := ⟨_, rfl⟩
  have hf : Fr (fun _ => False) w w1 := by rw [hw1]; exact (Fr.refl _ w).alloc _
  have hb : Blk w1 q0 24 #[.int .i64 3, .int .i64 l.length, .int .i64 o, .int .i64 t, .slice A l.length c] := by rw [hw1, hq0]; exact Blk.new _ _ _
  have HW := Lib.hid hw1
  have HQ := Lib.hid hq0
  have HF := Lib.hid (And.intro hf (hs.up hf))
  obtain ⟨V, hV⟩ : ∃ V, V = quo ⟨3, l.length, o, t, l⟩ true X.testBit := ⟨_, rfl⟩
  rw [← hV]
  have HV := Lib.hid hV
  have b0 := hb.cell 0 rfl
  have b1 := hb.cell 1 rfl
  have b2 := hb.cell 2 rfl
  have b3 := hb.cell 3 rfl
  have b4 := hb.cell 4 rfl
  simp only [Qu.v] at HC
  clear hf hs hw1 hq0 hV
  go_enter Try.func24, Try.ntmps24
  go_upto_region 1 with (fail)
  rw [← HW.out, ← HQ.out]
  clear HW HQ
  go_wp2_with fail
  refine (HC.out w1 HF.out.2 (by omega)).mono ?_
  rintro e w2 ⟨rfl, hf2⟩
  rw [HE.out]
  have hb2 := hb.fr hf2 (fun h => h)
  have hff := HF.out.1.tr hf2
  have hs2 := HF.out.2.up hf2
  clear b0 b1 b2 b3 b4 hf2 hb HF HC
  have b0 := hb2.cell 0 rfl
  have b1 := hb2.cell 1 rfl
  have b2 := hb2.cell 2 rfl
  have b3 := hb2.cell 3 rfl
  have b4 := hb2.cell 4 rfl
  go_wp2_with fail
  go_loopg [9] l.length (fun g x9 wr => ∃ (j : Nat), j + g = l.length ∧ x9 = .int .i64 j ∧ anyN j (fun j => allN l.length fun j' => !decide (l.getD j' 0 = l.getD j 0) || X.testBit j') = false ∧ Fr (fun _ => False) w2 wr)
  case atStart => exact ⟨0, by omega, rfl, rfl, Fr.refl _ _⟩
  case round =>
    obtain ⟨j, hj, rfl, hno, hfr⟩ := hrel
    have HJ := Lib.hid (And.intro hj hno)
    have hj' : j ≤ l.length := by omega
    clear hj hno b0 b1 b2 b3 b4
    have hbr := hb2.fr hfr (fun h => h)
    have hsr := hs2.up hfr
    have b0 := hbr.cell 0 rfl
    have b1 := hbr.cell 1 rfl
    have b2 := hbr.cell 2 rfl
    have b3 := hbr.cell 3 rfl
    have b4 := hbr.cell 4 rfl
    by_cases hlt : j < l.length
    · go_wp2_with fail
      refine (rwhole_any 3 o t l.length l true _ X j hX n12 hlt (fun i => l.getD i 0) (fun i hi w hs => rgroup_three l.length o t i (l.getD i 0) l true _ w hs hl (by rw [List.getD_eq_getElem?_getD, List.getElem?_eq_getElem hi]; rfl)) _ hsr).mono ?_
      rintro e w4 ⟨rfl, hf4⟩
      have hfr4 := hfr.tr hf4
      obtain ⟨Z, hZ⟩ : ∃ Z, Z = allN l.length (fun j' => !decide (l.getD j' 0 = l.getD j 0) || X.testBit j') := ⟨_, rfl⟩
      rw [← hZ]
      have HZ := Lib.hid hZ
      clear b0 b1 b2 b3 b4 hf4 hZ
      cases Z with
      | true =>
        go_wp2_with fail
        go_ret
        refine ⟨?_, hff.tr hfr4⟩
        rw [HV.out, ← three_eq o t l X.testBit]
        rw [anyN_iff.2 ⟨j, hlt, HZ.out.symm⟩]
        rfl
      | false =>
        go_wp2_with fail
        go_roundg (l.length - (j + 1))
        case measure => have := HJ.out; omega
        case rel => exact ⟨j + 1, by have := HJ.out; omega, by go_num, by simp only [anyN]; rw [HJ.out.2, ← HZ.out]; rfl, hfr4⟩
    · obtain rfl : j = l.length := by omega
      go_wp2_with fail
      go_ret
      refine ⟨?_, hff.tr hfr⟩
      rw [HV.out, ← three_eq o t l X.testBit, HJ.out.2]
      rfl
theorem three_eq2 (o t : Int) (l : List Int) (p : Nat → Bool) : (allN l.length fun j => anyN l.length fun j' => decide (l[j']? = l[j]?) && p j') = quo ⟨3, l.length, o, t, l⟩ false p := by
  unfold quo
  rw [if_neg (by simp), if_neg (by simp)]
  rfl
set_option maxRecDepth 100000 in
set_option maxHeartbeats 4000000 in
theorem ris_three_false (o t : Int) (l : List Int) (n1 : 1 ≤ l.length) (n12 : l.length ≤ 12) (b : l.any badS = false) (s : Value) (X : Nat) (hX : X < 4294967296) (w : World) (hs : Ints w s l) (hl : l.length ≤ 1000) :
    Calls Try.prog 24 #[.agg #[.int .i64 3, .int .i64 l.length, .int .i64 o, .int .i64 t, s], .bool false, .int .u32 X] w fun e w' => e = .returned (.bool (quo ⟨3, l.length, o, t, l⟩ false X.testBit)) ∧ Fr (fun _ => False) w w' := by
  have HC := Lib.hid (rright_any ⟨3, l.length, o, t, l⟩ s)
  have HE := Lib.hid (Ok.three o t l n1 n12 b).right
  have hs0 := hs
  obtain ⟨A, c, rfl, -⟩ := hs0
  obtain ⟨w1, hw1⟩ : ∃ w1, w1 = w.alloc (.cells #[.int .i64 3, .int .i64 l.length, .int .i64 o, .int .i64 t, .slice A l.length c] 24) := ⟨_, rfl⟩
  obtain ⟨q0, hq0⟩ : ∃ q0, q0 = w.heap.size := ⟨_, rfl⟩
  have hf : Fr (fun _ => False) w w1 := by rw [hw1]; exact (Fr.refl _ w).alloc _
  have hb : Blk w1 q0 24 #[.int .i64 3, .int .i64 l.length, .int .i64 o, .int .i64 t, .slice A l.length c] := by rw [hw1, hq0]; exact Blk.new _ _ _
  have HW := Lib.hid hw1
  have HQ := Lib.hid hq0
  have HF := Lib.hid (And.intro hf (hs.up hf))
  obtain ⟨V, hV⟩ : ∃ V, V = quo ⟨3, l.length, o, t, l⟩ false X.testBit := ⟨_, rfl⟩
  rw [← hV]
  have HV := Lib.hid hV
  have b0 := hb.cell 0 rfl
  have b1 := hb.cell 1 rfl
  have b2 := hb.cell 2 rfl
  have b3 := hb.cell 3 rfl
  have b4 := hb.cell 4 rfl
  simp only [Qu.v] at HC
  clear hf hs hw1 hq0 hV
  go_enter Try.func24, Try.ntmps24
  go_upto_region 1 with (fail)
  rw [← HW.out, ← HQ.out]
  clear HW HQ
  go_wp2_with fail
  refine (HC.out w1 HF.out.2 (by omega)).mono ?_
  rintro e w2 ⟨rfl, hf2⟩
  rw [HE.out]
  have hb2 := hb.fr hf2 (fun h => h)
  have hff := HF.out.1.tr hf2
  have hs2 := HF.out.2.up hf2
  clear b0 b1 b2 b3 b4 hf2 hb HF HC
  have b0 := hb2.cell 0 rfl
  have b1 := hb2.cell 1 rfl
  have b2 := hb2.cell 2 rfl
  have b3 := hb2.cell 3 rfl
  have b4 := hb2.cell 4 rfl
  go_wp2_with fail
  go_loopg [9] l.length (fun g x9 wr => ∃ (j : Nat), j + g = l.length ∧ x9 = .int .i64 j ∧ allN j (fun j => anyN l.length fun j' => decide (l[j']? = l[j]?) && X.testBit j') = true ∧ Fr (fun _ => False) w2 wr)
  case atStart => exact ⟨0, by omega, rfl, rfl, Fr.refl _ _⟩
  case round =>
    obtain ⟨j, hj, rfl, hno, hfr⟩ := hrel
    have HJ := Lib.hid (And.intro hj hno)
    have hj' : j ≤ l.length := by omega
    clear hj hno b0 b1 b2 b3 b4
    have hbr := hb2.fr hfr (fun h => h)
    have hsr := hs2.up hfr
    have b0 := hbr.cell 0 rfl
    have b1 := hbr.cell 1 rfl
    have b2 := hbr.cell 2 rfl
    have b3 := hbr.cell 3 rfl
    have b4 := hbr.cell 4 rfl
    by_cases hlt : j < l.length
    · go_wp2_with fail
      refine (rsome_any 3 l.length o t l _ X j hX n12 rfl hlt _ hsr).mono ?_
      rintro e w4 ⟨rfl, hf4⟩
      have hfr4 := hfr.tr hf4
      obtain ⟨Z, hZ⟩ : ∃ Z, Z = anyN l.length (fun j' => decide (l[j']? = l[j]?) && X.testBit j') := ⟨_, rfl⟩
      rw [← hZ]
      have HZ := Lib.hid hZ
      clear b0 b1 b2 b3 b4 hf4 hZ
      cases Z with
      | false =>
        go_wp2_with fail
        go_ret
        refine ⟨?_, hff.tr hfr4⟩
        rw [HV.out, ← three_eq2 o t l X.testBit]
        have : (allN l.length fun j => anyN l.length fun j' => decide (l[j']? = l[j]?) && X.testBit j') = false := by
          rw [Bool.eq_false_iff]
          intro h
          have h1 := allN_iff.1 h j hlt
          rw [← HZ.out] at h1
          cases h1
        rw [this]
        rfl
      | true =>
        go_wp2_with fail
        go_roundg (l.length - (j + 1))
        case measure => have := HJ.out; omega
        case rel => exact ⟨j + 1, by have := HJ.out; omega, by go_num, by simp only [allN]; rw [HJ.out.2, ← HZ.out]; rfl, hfr4⟩
    · obtain rfl : j = l.length := by omega
      go_wp2_with fail
      go_ret
      refine ⟨?_, hff.tr hfr⟩
      rw [HV.out, ← three_eq2 o t l X.testBit, HJ.out.2]
      rfl
theorem ris_any (q : Qu) (sec : Bool) (s : Value) (X : Nat) (hX : X < 4294967296) (w : World) (hs : Ints w s q.s) (hl : q.s.length ≤ 1000) :
    Calls Try.prog 24 #[q.v s, .bool sec, .int .u32 X] w fun e w' => e = .returned (.bool (isQ q sec X.testBit)) ∧ Fr (fun _ => False) w w' := by
  by_cases h : rightE q = 0
  · have ho := ok_of h
    have e : isQ q sec X.testBit = quo q sec X.testBit := by
      unfold isQ okQ
      rw [h]
      exact Bool.true_and _
    rw [e]
    cases ho with
    | one N O T l n1 n12 o1 oN t1 tN m =>
      cases sec
      · exact ris_one_false N O T l n1 n12 o1 oN t1 tN m s X hX w hs hl
      · exact ris_one_true N O T l n1 n12 o1 oN t1 tN m s X hX w hs hl
    | two N O T l n1 n12 o1 oN t1 tN m =>
      cases sec
      · exact ris_two_false N O T l n1 n12 o1 oN t1 tN m s X hX w hs hl
      · exact ris_two_true N O T l n1 n12 o1 oN t1 tN m s X hX w hs hl
    | three o t l n1 n12 b =>
      cases sec
      · exact ris_three_false o t l n1 n12 b s X hX w hs hl
      · exact ris_three_true o t l n1 n12 b s X hX w hs hl
  · have e : isQ q sec X.testBit = false := by
      unfold isQ okQ
      rw [show (rightE q == 0) = false by simp [h]]
      rfl
    rw [e]
    exact ris_bad q sec s X w hs hl h
end Go.Proofs.Ytliljjlegofmkaa
