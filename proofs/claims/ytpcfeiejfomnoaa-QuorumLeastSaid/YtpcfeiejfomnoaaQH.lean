/- The walk of QuorumMeets. -/
import Derived.Test.YtpcfeiejfomnoaaQG
import Derived.Test.YtpcfeiejfomnoaaQQ
namespace Go.Proofs.Ytpcfeiejfomnoaa
open Go.RowKit

/-- The law's own system, in a block of its own. -/
structure Qb (W w : World) (b : Nat) (q : Qu) (s : Value) : Prop where
  fr : Fr (fun _ => False) W w
  bk : Blk w b 24 #[.int .i64 q.k, .int .i64 q.n, .int .i64 q.o, .int .i64 q.t, s]
  it : Ints w s q.s
theorem Qb.up {W w w' : World} {b : Nat} {q : Qu} {s : Value} (h : Qb W w b q s) (hf : Fr (fun _ => False) w w') : Qb W w' b q s := ⟨h.fr.tr hf, h.bk.fr hf (fun h => h), h.it.up hf⟩
theorem Qb.start {w : World} {q : Qu} {s : Value} (hs : Ints w s q.s) : ∃ w1 b, w1 = w.alloc (.cells #[.int .i64 q.k, .int .i64 q.n, .int .i64 q.o, .int .i64 q.t, s] 24) ∧ b = w.heap.size ∧ Qb w w1 b q s :=
  ⟨_, _, rfl, rfl, (Fr.refl _ w).alloc _, Blk.new _ _ _, hs.up ((Fr.refl _ w).alloc _)⟩
theorem Qb.below {W w : World} {b : Nat} {q : Qu} {s : Value} (h : Qb W w b q s) : Below W.heap.size W w := h.fr.none_up.below (Nat.le_refl _)

set_option maxRecDepth 100000 in
set_option maxHeartbeats 8000000 in
theorem meets_law (q : Qu) (s : Value) (a b : Nat) (ha : a < 4294967296) (hb : b < 4294967296) (w : World) (hs : Ints w s q.s) :
    Calls Try.prog 5 #[q.v s, .int .u32 (a : Int), .int .u32 (b : Int)] w fun e w' => e = .returned (.bool true) ∧ Below w.heap.size w w' := by
  have HM := Lib.hid (many_any q s)
  have H1 := Lib.hid (fun h => first_any q s a ha (hl := h))
  have H2 := Lib.hid (fun h => second_any q s b hb (hl := h))
  obtain ⟨w1, bq, hw1, hbq, B⟩ := Qb.start hs
  have hmeet := fun h1 h2 => meets (q := q) (a := a.testBit) (b := b.testBit) h1 h2
  have hok : isQ q false a.testBit = true → 1 ≤ q.n.toNat ∧ q.n.toNat ≤ 12 ∧ q.n = (q.n.toNat : Int) := fun h => (isQ_iff.1 h).1.n
  have HMe := Lib.hid (And.intro hmeet hok)
  clear hmeet hok
  obtain ⟨k, n, o, t, l⟩ := q
  have hs0 := hs
  obtain ⟨A, c, rfl, -⟩ := hs0
  simp only [Qu.v] at HM H1 H2 HMe hw1 ⊢
  have HW := Lib.hid hw1
  have HB := Lib.hid hbq
  have B' := B
  obtain ⟨hfr, hbk, hit⟩ := B'
  simp only at hbk hit
  have b0 := hbk.cell 0 rfl
  have b1 := hbk.cell 1 rfl
  have b2 := hbk.cell 2 rfl
  have b3 := hbk.cell 3 rfl
  have b4 := hbk.cell 4 rfl
  clear hw1 hbq hs hfr hbk
  go_enter Try.func5, Try.ntmps5
  go_upto_region 1 with (fail)
  rw [← HW.out, ← HB.out]
  clear HW HB
  go_wp2_with fail
  refine (HM.out w1 hit).mono ?_
  rintro e w2 ⟨rfl, hf⟩
  have B := B.up hf
  clear b0 b1 b2 b3 b4 hf hit
  by_cases hl : 40 < l.length
  · rw [decide_eq_true hl]
    go_wp2_with fail
    refine (known_any w2).mono ?_
    rintro e w3 ⟨rfl, hf⟩
    go_wp2_with fail
    go_ret
    exact ⟨rfl, (B.up hf).below⟩
  · rw [decide_eq_false hl]
    have B' := B
    obtain ⟨-, hbk, hit⟩ := B'
    simp only at hbk hit
    have b0 := hbk.cell 0 rfl
    have b1 := hbk.cell 1 rfl
    have b2 := hbk.cell 2 rfl
    have b3 := hbk.cell 3 rfl
    have b4 := hbk.cell 4 rfl
    clear hbk
    go_wp2_with fail
    refine (H1.out (by omega) w2 hit).mono ?_
    rintro e w3 ⟨rfl, hf⟩
    have B := B.up hf
    clear b0 b1 b2 b3 b4 hf hit
    cases he : isQ ⟨k, n, o, t, l⟩ false a.testBit with
    | false =>
      have HE := Lib.hid he
      clear he
      go_wp2_with fail
      refine (known_any w3).mono ?_
      rintro e w4 ⟨rfl, hf⟩
      go_wp2_with fail
      go_ret
      exact ⟨rfl, (B.up hf).below⟩
    | true =>
      have HE := Lib.hid he
      clear he
      have B' := B
      obtain ⟨-, hbk, hit⟩ := B'
      simp only at hbk hit
      have b0 := hbk.cell 0 rfl
      have b1 := hbk.cell 1 rfl
      have b2 := hbk.cell 2 rfl
      have b3 := hbk.cell 3 rfl
      have b4 := hbk.cell 4 rfl
      clear hbk
      go_wp2_with fail
      refine (H2.out (by omega) w3 hit).mono ?_
      rintro e w4 ⟨rfl, hf⟩
      have B := B.up hf
      clear b0 b1 b2 b3 b4 hf hit
      cases he : isQ ⟨k, n, o, t, l⟩ true b.testBit with
      | false =>
        have HE2 := Lib.hid he
        clear he
        go_wp2_with fail
        refine (known_any w4).mono ?_
        rintro e w5 ⟨rfl, hf⟩
        go_wp2_with fail
        go_ret
        exact ⟨rfl, (B.up hf).below⟩
      | true =>
        obtain ⟨n1, n12, hn⟩ := HMe.out.2 HE.out
        obtain ⟨N, hNe⟩ : ∃ N, N = n.toNat := ⟨_, rfl⟩
        rw [← hNe] at n1 n12 hn
        obtain ⟨i, hi, e1, e2⟩ := HMe.out.1 HE.out he
        simp only [← hNe] at hi
        obtain ⟨C, hC, hC1, hC2⟩ : ∃ C : Nat, bits .and .u32 (a : Int) (b : Int) = (C : Int) ∧ C < 4294967296 ∧ C.testBit i = true :=
          ⟨a &&& b, u32_and_nat _ _ ha hb, Nat.lt_of_le_of_lt Nat.and_le_left ha, by rw [Nat.testBit_and, e1, e2]; rfl⟩
        obtain ⟨K, hp2, hK1, hK2, hcut⟩ := cut_eq' N C n12 hC1
        obtain ⟨D, hD⟩ : ∃ D, D = C % 2 ^ N := ⟨_, rfl⟩
        rw [← hD] at hcut
        have hD0 : ((D : Int) == 0) = false := by
          have : D ≠ 0 := by
            intro h0
            have h1 : D.testBit i = true := by rw [hD, Nat.testBit_mod_two_pow]; simp [hi, hC2]
            rw [h0, Nat.zero_testBit] at h1
            cases h1
          simpa using this
        have hD1 : ((D : Int) != 0) = true := by unfold bne; rw [hD0]; rfl
        have hD2 : ¬ D = 0 := by rintro rfl; simp at hD0
        have hbk := B.bk
        simp only at hbk
        subst hn
        have b1 := hbk.cell 1 rfl
        have HX := Lib.hid hNe
        clear hbk he hD e1 e2 hC2 hNe
        go_wp2_with fail
        refine (known_any w4).mono ?_
        rintro e w5 ⟨rfl, hf⟩
        go_wp2_with fail
        go_ret
        exact ⟨rfl, (B.up hf).below⟩
end Go.Proofs.Ytpcfeiejfomnoaa
