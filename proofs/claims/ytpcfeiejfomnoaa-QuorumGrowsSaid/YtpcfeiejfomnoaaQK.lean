/- The walk of QuorumGrows. -/
import Derived.Test.YtpcfeiejfomnoaaQH
import Derived.Deep.RegionHeld3
namespace Go.Proofs.Ytpcfeiejfomnoaa
open Go.RowKit

theorem all_const (q : Qu) (sec : Bool) : isQ q sec (Nat.testBit 4294967295) = okQ q := by
  rw [← all_q q sec]
  by_cases h : rightE q = 0
  · have hn := (ok_of h).n
    refine isQ_congr fun i hi => ?_
    rw [show (4294967295 : Nat) = 2 ^ 32 - 1 from rfl, Nat.testBit_two_pow_sub_one]
    simp; omega
  · unfold isQ okQ
    rw [show (rightE q == 0) = false by simp [h]]
    rfl
theorem none_const (q : Qu) (sec : Bool) : isQ q sec (Nat.testBit 0) = false := by
  rw [← none_q q sec]
  exact isQ_congr fun i _ => Nat.zero_testBit i
theorem or_mono (q : Qu) (sec : Bool) (x y : Nat) (h : isQ q sec x.testBit = true) : isQ q sec (x ||| y).testBit = true :=
  isQ_mono (fun i _ hi => by rw [Nat.testBit_or, hi]; rfl) h

/-- What the law goes by: the answers of either phase. -/
structure Ans (q : Qu) (X Z : Nat) (sec : Bool) (A B O : Bool) : Prop where
  a : isQ q sec X.testBit = A
  b : isQ q sec Z.testBit = B
  all : isQ q sec (Nat.testBit 4294967295) = O
  none : isQ q sec (Nat.testBit 0) = false

set_option maxRecDepth 100000 in
set_option maxHeartbeats 16000000 in
theorem grows_law (q : Qu) (s : Value) (X Y : Nat) (hX : X < 4294967296) (hY : Y < 4294967296) (w : World) (hs : Ints w s q.s) :
    Calls Try.prog 6 #[q.v s, .int .u32 (X : Int), .int .u32 (Y : Int)] w fun e w' => e = .returned (.bool true) ∧ Below w.heap.size w w' := by
  have HM := Lib.hid (many_any q s)
  have HR := Lib.hid (right_any q s)
  have H1 := Lib.hid (fun (x : Nat) (hx : x < 4294967296) => first_any q s x hx)
  have H2 := Lib.hid (fun (x : Nat) (hx : x < 4294967296) => second_any q s x hx)
  obtain ⟨Z, hZ, hZl⟩ : ∃ Z, Z = X ||| Y ∧ Z < 4294967296 := ⟨_, rfl, (Nat.or_lt_two_pow (n := 32) hX hY)⟩
  have hor : bits .or .u32 (X : Int) (Y : Int) = (Z : Int) := by rw [hZ]; exact u32_or_nat _ _ hX hY
  have hans : ∀ sec, ∃ A B, Ans q X Z sec A B (okQ q) ∧ (A = true → B = true) := fun sec => ⟨_, _, ⟨rfl, rfl, all_const q sec, none_const q sec⟩, fun h => by rw [hZ]; exact or_mono q sec X Y h⟩
  obtain ⟨A1, B1, hA1, hAB1⟩ := hans false
  obtain ⟨A2, B2, hA2, hAB2⟩ := hans true
  have hR0 : okQ q = (rightE q == 0) := rfl
  obtain ⟨E, hE⟩ : ∃ E, E = rightE q := ⟨_, rfl⟩
  have hcut : E = 0 → 1 ≤ q.n.toNat ∧ q.n.toNat ≤ 12 ∧ q.n = (q.n.toNat : Int) ∧ ∀ sec, isQ q sec (X % 2 ^ q.n.toNat).testBit = isQ q sec X.testBit := fun h => by
    have hn := (ok_of (q := q) (by rw [← hE]; exact h)).n
    exact ⟨hn.1, hn.2.1, hn.2.2, fun sec => isQ_congr fun i hi => cut_bit _ X i hi⟩
  have HCut := Lib.hid hcut
  obtain ⟨O, hO⟩ : ∃ O, O = okQ q := ⟨_, rfl⟩
  rw [← hO] at hA1 hA2 hR0
  rw [← hE] at hR0
  have G1 := Lib.hid hA1
  have G2 := Lib.hid hA2
  have HE := Lib.hid hE
  have HO := Lib.hid hR0
  obtain ⟨w1, bq, hw1, hbq, B⟩ := Qb.start hs
  clear hans hZ hA1 hA2 hcut hO hR0 hE
  obtain ⟨k, n, o, t, l⟩ := q
  have hs0 := hs
  obtain ⟨A, c, rfl, -⟩ := hs0
  simp only [Qu.v] at HM HR H1 H2 HE hw1 HCut ⊢
  have HW := Lib.hid hw1
  have HB := Lib.hid hbq
  have B' := B
  obtain ⟨hfr, hbk, hit⟩ := B'
  simp only at hbk hit
  have b0 := hbk.cell 0 rfl
  have b1 := hbk.cell 1 rfl
  have b2 := hbk.cell 2 rfl
  have b3 := hbk.cell 3 rfl
  have b4 := hbk.cell 4 rfl
  clear hw1 hbq hs hfr hbk
  go_enter Try.func6, Try.ntmps6
  go_upto_region 1 with (fail)
  rw [← HW.out, ← HB.out]
  clear HW HB
  go_wp2_with fail
  refine (HM.out w1 hit).mono ?_
  rintro e w2 ⟨rfl, hf⟩
  have B := B.up hf
  clear b0 b1 b2 b3 b4 hf hit
  by_cases hl : 40 < l.length
  · rw [decide_eq_true hl]
    clear hAB1 hAB2
    go_wp2_with fail
    refine (known_any w2).mono ?_
    rintro e w3 ⟨rfl, hf⟩
    go_wp2_with fail
    go_ret
    exact ⟨rfl, (B.up hf).below⟩
  rw [decide_eq_false hl]
  have hl' : l.length ≤ 1000 := by omega
  have B' := B
  obtain ⟨-, hbk, hit⟩ := B'
  simp only at hbk hit
  have b0 := hbk.cell 0 rfl
  have b1 := hbk.cell 1 rfl
  have b2 := hbk.cell 2 rfl
  have b3 := hbk.cell 3 rfl
  have b4 := hbk.cell 4 rfl
  clear hbk
  go_wp2_with fail
  refine (HR.out w2 hit hl').mono ?_
  rintro e w3 ⟨rfl, hf⟩
  rw [← HE.out]
  have B := B.up hf
  clear b0 b1 b2 b3 b4 hf hit
  clear HE
  have hEO : (E = 0 ∧ O = true) ∨ ((E == 0) = false ∧ O = false) := by
    have := HO.out
    by_cases h : E = 0
    · exact .inl ⟨h, by rw [this, h]; rfl⟩
    · have h' : (E == 0) = false := by simp [h]
      exact .inr ⟨h', by rw [this, h']⟩
  have HEO := Lib.hid hEO
  clear hEO
  go_wp2_with fail
  go_loopg [8] 2 (fun g x8 wr => ∃ (j : Nat), j + g = 2 ∧ x8 = .int .i64 j ∧ Qb w wr bq ⟨k, n, o, t, l⟩ (.slice A l.length c))
  case atStart => exact ⟨0, by omega, rfl, B⟩
  case round =>
    clear B
    obtain ⟨j, hj, rfl, B⟩ := hrel
    have HJ := Lib.hid hj
    have hj' : j ≤ 2 := by omega
    clear hj
    by_cases hj0 : j = 0
    · subst hj0
      have B' := B
      obtain ⟨-, hbk, hit⟩ := B'
      simp only at hbk hit
      have b0 := hbk.cell 0 rfl
      have b1 := hbk.cell 1 rfl
      have b2 := hbk.cell 2 rfl
      have b3 := hbk.cell 3 rfl
      have b4 := hbk.cell 4 rfl
      clear hbk
      go_wp2_with fail
      refine (H1.out X hX _ hit hl').mono ?_
      rintro e wq ⟨rfl, hf⟩
      rw [G1.out.a]
      have B := B.up hf
      clear b0 b1 b2 b3 b4 hf hit
      have B' := B
      obtain ⟨-, hbk, hit⟩ := B'
      simp only at hbk hit
      have b0 := hbk.cell 0 rfl
      have b1 := hbk.cell 1 rfl
      have b2 := hbk.cell 2 rfl
      have b3 := hbk.cell 3 rfl
      have b4 := hbk.cell 4 rfl
      clear hbk
      go_wp2_with fail
      refine (H1.out Z hZl _ hit hl').mono ?_
      rintro e wq ⟨rfl, hf⟩
      rw [G1.out.b]
      have B := B.up hf
      clear b0 b1 b2 b3 b4 hf hit
      have B' := B
      obtain ⟨-, hbk, hit⟩ := B'
      simp only at hbk hit
      have b0 := hbk.cell 0 rfl
      have b1 := hbk.cell 1 rfl
      have b2 := hbk.cell 2 rfl
      have b3 := hbk.cell 3 rfl
      have b4 := hbk.cell 4 rfl
      clear hbk
      go_wp2_with fail
      refine (H1.out 4294967295 (by omega) _ hit hl').mono ?_
      rintro e wq ⟨rfl, hf⟩
      rw [G1.out.all]
      have B := B.up hf
      clear b0 b1 b2 b3 b4 hf hit
      have B' := B
      obtain ⟨-, hbk, hit⟩ := B'
      simp only at hbk hit
      have b0 := hbk.cell 0 rfl
      have b1 := hbk.cell 1 rfl
      have b2 := hbk.cell 2 rfl
      have b3 := hbk.cell 3 rfl
      have b4 := hbk.cell 4 rfl
      clear hbk
      go_wp2_with fail
      refine (H1.out 0 (by omega) _ hit hl').mono ?_
      rintro e wq ⟨rfl, hf⟩
      rw [G1.out.none]
      have B := B.up hf
      clear b0 b1 b2 b3 b4 hf hit
      have HB1 := Lib.hid hAB1
      clear hAB1 hAB2
      rcases HEO.out with ⟨he, ho⟩ | ⟨he, ho⟩
      all_goals
        subst ho
        first | subst he | skip
        cases A1 with
        | false =>
          go_wp2_with fail
          go_roundg (2 - (0 + 1))
          case measure => have := HJ.out; omega
          case rel => exact ⟨0 + 1, by have := HJ.out; omega, rfl, B⟩
        | true =>
          obtain rfl : B1 = true := HB1.out rfl
          go_wp2_with fail
          go_roundg (2 - (0 + 1))
          case measure => have := HJ.out; omega
          case rel => exact ⟨0 + 1, by have := HJ.out; omega, rfl, B⟩
    by_cases hj1 : j = 1
    · subst hj1
      have B' := B
      obtain ⟨-, hbk, hit⟩ := B'
      simp only at hbk hit
      have b0 := hbk.cell 0 rfl
      have b1 := hbk.cell 1 rfl
      have b2 := hbk.cell 2 rfl
      have b3 := hbk.cell 3 rfl
      have b4 := hbk.cell 4 rfl
      clear hbk
      go_wp2_with fail
      refine (H1.out X hX _ hit hl').mono ?_
      rintro e wq ⟨rfl, hf⟩
      rw [G1.out.a]
      have B := B.up hf
      clear b0 b1 b2 b3 b4 hf hit
      have B' := B
      obtain ⟨-, hbk, hit⟩ := B'
      simp only at hbk hit
      have b0 := hbk.cell 0 rfl
      have b1 := hbk.cell 1 rfl
      have b2 := hbk.cell 2 rfl
      have b3 := hbk.cell 3 rfl
      have b4 := hbk.cell 4 rfl
      clear hbk
      go_wp2_with fail
      refine (H1.out Z hZl _ hit hl').mono ?_
      rintro e wq ⟨rfl, hf⟩
      rw [G1.out.b]
      have B := B.up hf
      clear b0 b1 b2 b3 b4 hf hit
      have B' := B
      obtain ⟨-, hbk, hit⟩ := B'
      simp only at hbk hit
      have b0 := hbk.cell 0 rfl
      have b1 := hbk.cell 1 rfl
      have b2 := hbk.cell 2 rfl
      have b3 := hbk.cell 3 rfl
      have b4 := hbk.cell 4 rfl
      clear hbk
      go_wp2_with fail
      refine (H1.out 4294967295 (by omega) _ hit hl').mono ?_
      rintro e wq ⟨rfl, hf⟩
      rw [G1.out.all]
      have B := B.up hf
      clear b0 b1 b2 b3 b4 hf hit
      have B' := B
      obtain ⟨-, hbk, hit⟩ := B'
      simp only at hbk hit
      have b0 := hbk.cell 0 rfl
      have b1 := hbk.cell 1 rfl
      have b2 := hbk.cell 2 rfl
      have b3 := hbk.cell 3 rfl
      have b4 := hbk.cell 4 rfl
      clear hbk
      go_wp2_with fail
      refine (H1.out 0 (by omega) _ hit hl').mono ?_
      rintro e wq ⟨rfl, hf⟩
      rw [G1.out.none]
      have B := B.up hf
      clear b0 b1 b2 b3 b4 hf hit
      have B' := B
      obtain ⟨-, hbk, hit⟩ := B'
      simp only at hbk hit
      have b0 := hbk.cell 0 rfl
      have b1 := hbk.cell 1 rfl
      have b2 := hbk.cell 2 rfl
      have b3 := hbk.cell 3 rfl
      have b4 := hbk.cell 4 rfl
      clear hbk
      go_wp2_with fail
      refine (H2.out X hX _ hit hl').mono ?_
      rintro e wq ⟨rfl, hf⟩
      rw [G2.out.a]
      have B := B.up hf
      clear b0 b1 b2 b3 b4 hf hit
      have B' := B
      obtain ⟨-, hbk, hit⟩ := B'
      simp only at hbk hit
      have b0 := hbk.cell 0 rfl
      have b1 := hbk.cell 1 rfl
      have b2 := hbk.cell 2 rfl
      have b3 := hbk.cell 3 rfl
      have b4 := hbk.cell 4 rfl
      clear hbk
      go_wp2_with fail
      refine (H2.out Z hZl _ hit hl').mono ?_
      rintro e wq ⟨rfl, hf⟩
      rw [G2.out.b]
      have B := B.up hf
      clear b0 b1 b2 b3 b4 hf hit
      have B' := B
      obtain ⟨-, hbk, hit⟩ := B'
      simp only at hbk hit
      have b0 := hbk.cell 0 rfl
      have b1 := hbk.cell 1 rfl
      have b2 := hbk.cell 2 rfl
      have b3 := hbk.cell 3 rfl
      have b4 := hbk.cell 4 rfl
      clear hbk
      go_wp2_with fail
      refine (H2.out 4294967295 (by omega) _ hit hl').mono ?_
      rintro e wq ⟨rfl, hf⟩
      rw [G2.out.all]
      have B := B.up hf
      clear b0 b1 b2 b3 b4 hf hit
      have B' := B
      obtain ⟨-, hbk, hit⟩ := B'
      simp only at hbk hit
      have b0 := hbk.cell 0 rfl
      have b1 := hbk.cell 1 rfl
      have b2 := hbk.cell 2 rfl
      have b3 := hbk.cell 3 rfl
      have b4 := hbk.cell 4 rfl
      clear hbk
      go_wp2_with fail
      refine (H2.out 0 (by omega) _ hit hl').mono ?_
      rintro e wq ⟨rfl, hf⟩
      rw [G2.out.none]
      have B := B.up hf
      clear b0 b1 b2 b3 b4 hf hit
      have HB1 := Lib.hid hAB2
      clear hAB1 hAB2
      rcases HEO.out with ⟨he, ho⟩ | ⟨he, ho⟩
      all_goals
        subst ho
        first | subst he | skip
        cases A2 with
        | false =>
          go_wp2_with fail
          go_roundg (2 - (1 + 1))
          case measure => have := HJ.out; omega
          case rel => exact ⟨1 + 1, by have := HJ.out; omega, rfl, B⟩
        | true =>
          obtain rfl : B2 = true := HB1.out rfl
          go_wp2_with fail
          go_roundg (2 - (1 + 1))
          case measure => have := HJ.out; omega
          case rel => exact ⟨1 + 1, by have := HJ.out; omega, rfl, B⟩
    obtain rfl : j = 2 := by omega
    clear hAB1 hAB2
    rcases HEO.out with ⟨he, ho⟩ | ⟨he, ho⟩
    · subst he
      obtain ⟨n1, n12, hn, hcut⟩ := HCut.out rfl
      obtain ⟨N, hNe⟩ : ∃ N, N = n.toNat := ⟨_, rfl⟩
      simp only [← hNe] at n1 n12 hn hcut
      obtain ⟨C, hC⟩ : ∃ C, C = X % 2 ^ N := ⟨_, rfl⟩
      rw [← hC] at hcut
      have hCl : C < 4294967296 := by rw [hC]; exact Nat.lt_of_le_of_lt (Nat.mod_le _ _) hX
      have hp2 := pow_int n12
      obtain ⟨K, hK⟩ : ∃ K : Nat, K = 2 ^ N := ⟨_, rfl⟩
      have hK1 : 1 ≤ K := by rw [hK]; exact Nat.two_pow_pos N
      rw [← hK] at hp2 hC
      have hCK : (X : Int).tmod (K : Int) = (C : Int) := by rw [hC, Int.tmod_eq_emod_of_nonneg (Int.natCast_nonneg _)]; exact (Int.natCast_emod _ _).symm
      have hCK2 : (X : Int) % (K : Int) = (C : Int) := by rw [hC]; exact (Int.natCast_emod _ _).symm
      have e1 := hcut false
      have e2 := hcut true
      rw [G1.out.a] at e1
      rw [G2.out.a] at e2
      have E1 := Lib.hid e1
      have E2 := Lib.hid e2
      subst hn
      have HX := Lib.hid (And.intro hNe (And.intro hK hC))
      clear e1 e2 hcut hNe hK hC
      have hbk := B.bk
      simp only at hbk
      have b0 := hbk.cell 0 rfl
      have b1 := hbk.cell 1 rfl
      have b2 := hbk.cell 2 rfl
      have b3 := hbk.cell 3 rfl
      have b4 := hbk.cell 4 rfl
      have B0 := B.up ((Fr.refl _ wr).drew)
      have hkeep : ∀ wx, Qb w wx bq ⟨k, N, o, t, l⟩ (.slice A l.length c) → wx.cell? ⟨bq, 0, none⟩ = some (.int .i64 k) ∧ wx.cell? ⟨bq, 1, none⟩ = some (.int .i64 N) ∧ wx.cell? ⟨bq, 2, none⟩ = some (.int .i64 o) ∧ wx.cell? ⟨bq, 3, none⟩ = some (.int .i64 t) ∧ wx.cell? ⟨bq, 4, none⟩ = some (.slice A l.length c) :=
        fun wx h => ⟨h.bk.cell 0 rfl, h.bk.cell 1 rfl, h.bk.cell 2 rfl, h.bk.cell 3 rfl, h.bk.cell 4 rfl⟩
      have HKeep := Lib.hid hkeep
      clear hkeep hbk
      go_upto_region 20 with (fail)
      go_region_held3 (fun wx => wx.cell? ⟨bq, 0, none⟩ = some (.int .i64 k) ∧ wx.cell? ⟨bq, 1, none⟩ = some (.int .i64 N) ∧ wx.cell? ⟨bq, 2, none⟩ = some (.int .i64 o) ∧ wx.cell? ⟨bq, 3, none⟩ = some (.int .i64 t) ∧ wx.cell? ⟨bq, 4, none⟩ = some (.slice A l.length c)) (first | exact ⟨b0, b1, b2, b3, b4⟩ | exact hS4)
        (first
          | (go_at_call 15
             refine (H1.out _ (by omega) _ (Qb.it B0) hl').mono ?_
             rintro e w4 ⟨rfl, hf4⟩
             first | rw [G1.out.a] | rw [E1.out]
             replace B0 := B0.up hf4
             have hS4 := HKeep.out _ B0)
          | (go_at_call 16
             refine (H2.out _ (by omega) _ (Qb.it B0) hl').mono ?_
             rintro e w4 ⟨rfl, hf4⟩
             first | rw [G2.out.a] | rw [E2.out]
             replace B0 := B0.up hf4
             have hS4 := HKeep.out _ B0)
          | (go_at_call 10
             refine (known_any _).mono ?_
             rintro e w4 ⟨rfl, hf4⟩
             replace B0 := B0.up hf4
             have hS4 := HKeep.out _ B0))
      all_goals
        clear b0 b1 b2 b3 b4
        go_wp2_with fail
        go_ret
        exact ⟨rfl, B0.below⟩
    · clear HEO
      go_wp2_with fail
      refine (known_any _).mono ?_
      rintro e w4 ⟨rfl, hf⟩
      go_wp2_with fail
      go_ret
      exact ⟨rfl, (B.up hf).below⟩
end Go.Proofs.Ytpcfeiejfomnoaa
