/- many, known. -/
import Derived.Test.YtpcfeiejfomnoaaQF
namespace Go.Proofs.Ytpcfeiejfomnoaa
open Go.RowKit

theorem many_any (q : Qu) (s : Value) (w : World) (hs : Ints w s q.s) :
    Calls Try.prog 9 #[q.v s] w fun e w' => e = .returned (.bool (decide (40 < q.s.length))) ∧ Fr (fun _ => False) w w' := by
  obtain ⟨k, n, o, t, l⟩ := q
  obtain ⟨A, c, rfl, -⟩ := hs
  have hf := (Fr.refl (fun _ => False) w).alloc (.cells #[.int .i64 k, .int .i64 n, .int .i64 o, .int .i64 t, .slice A l.length c] 24)
  have HF := Lib.hid hf
  simp only [Qu.v]
  clear hf
  go_enter Try.func9, Try.ntmps9
  go_wp2_with fail
  go_ret
  refine ⟨?_, HF.out⟩
  show Ending.returned (.bool (decide ((40 : Int) < l.length))) = _
  congr 2
  rw [decide_eq_decide]
  omega

theorem ints_nil (w : World) : Ints w (.slice none 0 0) [] := ⟨none, 0, rfl, fun h => absurd rfl h⟩
/-- The blocks of known. -/
structure Kn (w : World) (b1 b2 b4 : Nat) (g vc : Nat) : Prop where
  k1 : Blk w b1 24 #[.int .i64 1, .int .i64 4, .int .i64 3, .int .i64 2, .slice none 0 0]
  k2 : Blk w b2 24 #[.int .i64 1, .int .i64 4, .int .i64 3, .int .i64 1, .slice none 0 0]
  k4 : Blk w b4 24 #[.int .i64 2, .int .i64 6, .int .i64 2, .int .i64 3, .slice none 0 0]
  k5 : Blk w (b4 + 2) 24 #[.int .i64 3, .int .i64 3, .int .i64 0, .int .i64 0, .slice (some ⟨b4 + 1, 0, none⟩) 3 3]
  s5 : Blk w (b4 + 1) 3 #[.int .i64 0, .int .i64 0, .int .i64 1]
  l : w.ownsRow 0 29 1 (.slice (some ⟨g, 0, none⟩) 6 vc) 6 (u32s [3, 5, 6, 9, 10, 12])
theorem Kn.up {w w' : World} {b1 b2 b4 g vc : Nat} (h : Kn w b1 b2 b4 g vc) (hf : Fr (fun _ => False) w w') : Kn w' b1 b2 b4 g vc :=
  ⟨h.k1.fr hf (fun h => h), h.k2.fr hf (fun h => h), h.k4.fr hf (fun h => h), h.k5.fr hf (fun h => h), h.s5.fr hf (fun h => h), own_fr h.l hf (fun _ _ h => h)⟩
theorem Kn.ints {w : World} {b1 b2 b4 g vc : Nat} (h : Kn w b1 b2 b4 g vc) : Ints w (.slice (some ⟨b4 + 1, 0, none⟩) 3 3) [0, 0, 1] := by
  refine ⟨_, 3, rfl, fun _ => ⟨b4 + 1, 0, rfl, fun i z hz => ?_⟩⟩
  rw [Nat.zero_add]
  have hi := (List.getElem?_eq_some_iff.1 hz).1
  simp at hi
  match i, hi, hz with
  | 0, _, hz => simp at hz; subst hz; exact h.s5.cell 0 rfl
  | 1, _, hz => simp at hz; subst hz; exact h.s5.cell 1 rfl
  | 2, _, hz => simp at hz; subst hz; exact h.s5.cell 2 rfl

set_option maxRecDepth 100000 in
set_option maxHeartbeats 8000000 in
theorem known_any (w : World) : Calls Try.prog 10 #[] w fun e w' => e = .returned (.bool true) ∧ Fr (fun _ => False) w w' := by
  obtain ⟨w1, hw1⟩ : ∃ w1, w1 = w.alloc (.cells #[.int .i64 1, .int .i64 4, .int .i64 3, .int .i64 2, .slice none 0 0] 24) := ⟨_, rfl⟩
  obtain ⟨b1, hb1⟩ : ∃ b1, b1 = w.heap.size := ⟨_, rfl⟩
  have hf1 : Fr (fun _ => False) w w1 := by rw [hw1]; exact (Fr.refl _ w).alloc _
  have k1 : Blk w1 b1 24 #[.int .i64 1, .int .i64 4, .int .i64 3, .int .i64 2, .slice none 0 0] := by rw [hw1, hb1]; exact Blk.new _ _ _
  have HW1 := Lib.hid hw1
  have HB1 := Lib.hid hb1
  have c0 := k1.cell 0 rfl
  have c1 := k1.cell 1 rfl
  have c2 := k1.cell 2 rfl
  have c3 := k1.cell 3 rfl
  have c4 := k1.cell 4 rfl
  clear hw1 hb1
  go_enter Try.func10, Try.ntmps10
  go_upto_region 2 with (fail)
  rw [← HW1.out, ← HB1.out]
  obtain ⟨w2, hw2⟩ : ∃ w2, w2 = w1.alloc (.cells #[.int .i64 1, .int .i64 4, .int .i64 3, .int .i64 2, .slice none 0 0] 24) := ⟨_, rfl⟩
  obtain ⟨b2, hb2⟩ : ∃ b2, b2 = w1.heap.size := ⟨_, rfl⟩
  have hf2 : Fr (fun _ => False) w1 w2 := by rw [hw2]; exact (Fr.refl _ w1).alloc _
  have k2' : Blk w2 b2 24 #[.int .i64 1, .int .i64 4, .int .i64 3, .int .i64 2, .slice none 0 0] := by rw [hw2, hb2]; exact Blk.new _ _ _
  have k1b := k1.fr hf2 (fun h => h)
  have hne : b1 ≠ b2 := by have := k1.lt; omega
  have hb2w : w.heap.size ≤ b2 := by rw [hb2]; exact hf1.size
  have HW2 := Lib.hid hw2
  have HB2 := Lib.hid hb2
  clear HW1 HB1 hw2 hb2
  go_upto_region 3 with (fail)
  rw [← HW2.out, ← HB2.out]
  clear HW2 HB2 c0 c1 c2 c3 c4
  obtain ⟨w3, hw3⟩ : ∃ w3, w3 = w2.setCell ⟨b2, 3, none⟩ (.int .i64 1) := ⟨_, rfl⟩
  have hf3 : Fr (fun k => k = b2) w2 w3 := by rw [hw3]; exact Fr.set1 _ _ _ _
  have k2 : Blk w3 b2 24 #[.int .i64 1, .int .i64 4, .int .i64 3, .int .i64 1, .slice none 0 0] := by
    have := k2'.set_ 3 (.int .i64 1); rw [hw3]; simpa using this
  have k1c := k1b.fr hf3 hne
  have hfa : Fr (fun _ => False) w w3 := (hf1.tr hf2).trans hf3 (fun b hb h => by rcases h with h | h; exact h; omega)
  have e3 := k2'.cell 3 rfl
  have ef := k2'.frozen 3
  have HW3 := Lib.hid hw3
  clear hw3 k1 k1b k2' hf3 hf2 hf1 hb2w hne
  go_upto_region 4 with (fail)
  rw [← HW3.out]
  clear HW3 e3 ef
  have c0 := k1c.cell 0 rfl
  have c1 := k1c.cell 1 rfl
  have c2 := k1c.cell 2 rfl
  have c3 := k1c.cell 3 rfl
  have c4 := k1c.cell 4 rfl
  go_wp2_with fail
  refine (leasts_any ⟨1, 4, 3, 2, []⟩ true _ w3 (ints_nil _) (by simp)).mono ?_
  rintro e w4 ⟨v, rfl, hrow, hf4⟩
  rw [show leastQ ⟨1, 4, 3, 2, []⟩ true = [3, 5, 6, 9, 10, 12] by decide +kernel] at hrow
  obtain ⟨g, vc, rfl⟩ : ∃ g vc, v = .slice (some ⟨g, 0, none⟩) 6 vc := by
    rcases own_form hrow with ⟨_, h2, _⟩ | ⟨g, cap, cur, h1, _⟩
    · cases h2
    · exact ⟨g, cap, h1⟩
  clear c0 c1 c2 c3 c4
  have k1d := k1c.fr hf4 (fun h => h)
  have k2d := k2.fr hf4 (fun h => h)
  obtain ⟨b4, hb4⟩ : ∃ b4, b4 = w4.heap.size := ⟨_, rfl⟩
  obtain ⟨w7, hw7⟩ : ∃ w7, w7 = ((w4.alloc (.cells #[.int .i64 2, .int .i64 6, .int .i64 2, .int .i64 3, .slice none 0 0] 24)).alloc (.cells #[.int .i64 0, .int .i64 0, .int .i64 1] 3)).alloc (.cells #[.int .i64 3, .int .i64 3, .int .i64 0, .int .i64 0, .slice (some ⟨w4.heap.size + 1, 0, none⟩) 3 3] 24) := ⟨_, rfl⟩
  have hf7 : Fr (fun _ => False) w4 w7 := by rw [hw7]; exact (((Fr.refl _ w4).alloc _).alloc _).alloc _
  have K : Kn w7 b1 b2 b4 g vc := by
    refine ⟨k1d.fr hf7 (fun h => h), k2d.fr hf7 (fun h => h), ?_, ?_, ?_, own_base (own_fr hrow hf7 (fun _ _ h => h))⟩
    · rw [hw7, hb4]; exact ((Blk.new _ _ _).alloc _).alloc _
    · rw [hw7, hb4]
      have := Blk.new ((w4.alloc (.cells #[.int .i64 2, .int .i64 6, .int .i64 2, .int .i64 3, .slice none 0 0] 24)).alloc (.cells #[.int .i64 0, .int .i64 0, .int .i64 1] 3)) 24 #[.int .i64 3, .int .i64 3, .int .i64 0, .int .i64 0, .slice (some ⟨w4.heap.size + 1, 0, none⟩) 3 3]
      simpa using this
    · rw [hw7, hb4]
      have := Blk.new (w4.alloc (.cells #[.int .i64 2, .int .i64 6, .int .i64 2, .int .i64 3, .slice none 0 0] 24)) 3 #[.int .i64 0, .int .i64 0, .int .i64 1]
      refine Blk.alloc ?_ _
      simpa using this
  have hfb := (hfa.tr hf4).tr hf7
  have HW7 := Lib.hid hw7
  have HB4 := Lib.hid hb4
  clear hw7 hb4 hfa hf4 hf7 hrow k1c k2 k1d k2d
  go_upto_region 7 with (fail)
  rw [← HW7.out, ← HB4.out]
  clear HW7 HB4

  have c0 := K.k1.cell 0 rfl
  have c1 := K.k1.cell 1 rfl
  have c2 := K.k1.cell 2 rfl
  have c3 := K.k1.cell 3 rfl
  have c4 := K.k1.cell 4 rfl
  go_wp2_with fail
  refine (right_any ⟨1, 4, 3, 2, []⟩ _ w7 (ints_nil _) (by simp)).mono ?_
  rintro e u0 ⟨rfl, hf⟩
  rw [show rightE ⟨1, 4, 3, 2, []⟩ = 0 by decide +kernel]
  have K := K.up hf
  have hfb := hfb.tr hf
  clear c0 c1 c2 c3 c4 hf

  have c0 := K.k2.cell 0 rfl
  have c1 := K.k2.cell 1 rfl
  have c2 := K.k2.cell 2 rfl
  have c3 := K.k2.cell 3 rfl
  have c4 := K.k2.cell 4 rfl
  go_wp2_with fail
  refine (right_any ⟨1, 4, 3, 1, []⟩ _ u0 (ints_nil _) (by simp)).mono ?_
  rintro e u1 ⟨rfl, hf⟩
  rw [show rightE ⟨1, 4, 3, 1, []⟩ = 80 by decide +kernel]
  have K := K.up hf
  have hfb := hfb.tr hf
  clear c0 c1 c2 c3 c4 hf

  have c0 := K.k1.cell 0 rfl
  have c1 := K.k1.cell 1 rfl
  have c2 := K.k1.cell 2 rfl
  have c3 := K.k1.cell 3 rfl
  have c4 := K.k1.cell 4 rfl
  go_wp2_with fail
  refine (first_any ⟨1, 4, 3, 2, []⟩ _ 7 (by omega) u1 (ints_nil _) (by simp)).mono ?_
  rintro e u2 ⟨rfl, hf⟩
  rw [show isQ ⟨1, 4, 3, 2, []⟩ false (Nat.testBit 7) = true by decide +kernel]
  have K := K.up hf
  have hfb := hfb.tr hf
  clear c0 c1 c2 c3 c4 hf

  have c0 := K.k1.cell 0 rfl
  have c1 := K.k1.cell 1 rfl
  have c2 := K.k1.cell 2 rfl
  have c3 := K.k1.cell 3 rfl
  have c4 := K.k1.cell 4 rfl
  go_wp2_with fail
  refine (second_any ⟨1, 4, 3, 2, []⟩ _ 3 (by omega) u2 (ints_nil _) (by simp)).mono ?_
  rintro e u3 ⟨rfl, hf⟩
  rw [show isQ ⟨1, 4, 3, 2, []⟩ true (Nat.testBit 3) = true by decide +kernel]
  have K := K.up hf
  have hfb := hfb.tr hf
  clear c0 c1 c2 c3 c4 hf

  have c0 := K.k1.cell 0 rfl
  have c1 := K.k1.cell 1 rfl
  have c2 := K.k1.cell 2 rfl
  have c3 := K.k1.cell 3 rfl
  have c4 := K.k1.cell 4 rfl
  go_wp2_with fail
  refine (first_any ⟨1, 4, 3, 2, []⟩ _ 3 (by omega) u3 (ints_nil _) (by simp)).mono ?_
  rintro e u4 ⟨rfl, hf⟩
  rw [show isQ ⟨1, 4, 3, 2, []⟩ false (Nat.testBit 3) = false by decide +kernel]
  have K := K.up hf
  have hfb := hfb.tr hf
  clear c0 c1 c2 c3 c4 hf

  have c0 := K.k1.cell 0 rfl
  have c1 := K.k1.cell 1 rfl
  have c2 := K.k1.cell 2 rfl
  have c3 := K.k1.cell 3 rfl
  have c4 := K.k1.cell 4 rfl
  have d0 := own_cell K.l 0 rfl
  have d5 := own_cell K.l 5 rfl
  go_wp2_with fail
  refine (reach_any ⟨1, 4, 3, 2, []⟩ 1 _ u4 (ints_nil _) (by simp)).mono ?_
  rintro e u5 ⟨rfl, hf⟩
  rw [show reachE ⟨1, 4, 3, 2, []⟩ 1 = 0 by decide +kernel]
  have K := K.up hf
  have hfb := hfb.tr hf
  clear c0 c1 c2 c3 c4 hf d0 d5

  have c0 := K.k1.cell 0 rfl
  have c1 := K.k1.cell 1 rfl
  have c2 := K.k1.cell 2 rfl
  have c3 := K.k1.cell 3 rfl
  have c4 := K.k1.cell 4 rfl
  go_wp2_with fail
  refine (reach_any ⟨1, 4, 3, 2, []⟩ 2 _ u5 (ints_nil _) (by simp)).mono ?_
  rintro e u6 ⟨rfl, hf⟩
  rw [show reachE ⟨1, 4, 3, 2, []⟩ 2 = 4 by decide +kernel]
  have K := K.up hf
  have hfb := hfb.tr hf
  clear c0 c1 c2 c3 c4 hf

  have c0 := K.k4.cell 0 rfl
  have c1 := K.k4.cell 1 rfl
  have c2 := K.k4.cell 2 rfl
  have c3 := K.k4.cell 3 rfl
  have c4 := K.k4.cell 4 rfl
  go_wp2_with fail
  refine (first_any ⟨2, 6, 2, 3, []⟩ _ 7 (by omega) u6 (ints_nil _) (by simp)).mono ?_
  rintro e u7 ⟨rfl, hf⟩
  rw [show isQ ⟨2, 6, 2, 3, []⟩ false (Nat.testBit 7) = true by decide +kernel]
  have K := K.up hf
  have hfb := hfb.tr hf
  clear c0 c1 c2 c3 c4 hf

  have c0 := K.k4.cell 0 rfl
  have c1 := K.k4.cell 1 rfl
  have c2 := K.k4.cell 2 rfl
  have c3 := K.k4.cell 3 rfl
  have c4 := K.k4.cell 4 rfl
  go_wp2_with fail
  refine (second_any ⟨2, 6, 2, 3, []⟩ _ 9 (by omega) u7 (ints_nil _) (by simp)).mono ?_
  rintro e u8 ⟨rfl, hf⟩
  rw [show isQ ⟨2, 6, 2, 3, []⟩ true (Nat.testBit 9) = true by decide +kernel]
  have K := K.up hf
  have hfb := hfb.tr hf
  clear c0 c1 c2 c3 c4 hf

  have c0 := K.k5.cell 0 rfl
  have c1 := K.k5.cell 1 rfl
  have c2 := K.k5.cell 2 rfl
  have c3 := K.k5.cell 3 rfl
  have c4 := K.k5.cell 4 rfl
  go_wp2_with fail
  refine (first_any ⟨3, 3, 0, 0, [0, 0, 1]⟩ _ 5 (by omega) u8 K.ints (by simp)).mono ?_
  rintro e u9 ⟨rfl, hf⟩
  rw [show isQ ⟨3, 3, 0, 0, [0, 0, 1]⟩ false (Nat.testBit 5) = true by decide +kernel]
  have K := K.up hf
  have hfb := hfb.tr hf
  clear c0 c1 c2 c3 c4 hf

  have c0 := K.k5.cell 0 rfl
  have c1 := K.k5.cell 1 rfl
  have c2 := K.k5.cell 2 rfl
  have c3 := K.k5.cell 3 rfl
  have c4 := K.k5.cell 4 rfl
  go_wp2_with fail
  refine (second_any ⟨3, 3, 0, 0, [0, 0, 1]⟩ _ 4 (by omega) u9 K.ints (by simp)).mono ?_
  rintro e u10 ⟨rfl, hf⟩
  rw [show isQ ⟨3, 3, 0, 0, [0, 0, 1]⟩ true (Nat.testBit 4) = true by decide +kernel]
  have K := K.up hf
  have hfb := hfb.tr hf
  clear c0 c1 c2 c3 c4 hf

  have c0 := K.k5.cell 0 rfl
  have c1 := K.k5.cell 1 rfl
  have c2 := K.k5.cell 2 rfl
  have c3 := K.k5.cell 3 rfl
  have c4 := K.k5.cell 4 rfl
  go_wp2_with fail
  refine (first_any ⟨3, 3, 0, 0, [0, 0, 1]⟩ _ 4 (by omega) u10 K.ints (by simp)).mono ?_
  rintro e u11 ⟨rfl, hf⟩
  rw [show isQ ⟨3, 3, 0, 0, [0, 0, 1]⟩ false (Nat.testBit 4) = false by decide +kernel]
  have K := K.up hf
  have hfb := hfb.tr hf
  clear c0 c1 c2 c3 c4 hf

  go_wp2_with fail
  go_ret
  exact ⟨rfl, hfb⟩
end Go.Proofs.Ytpcfeiejfomnoaa
