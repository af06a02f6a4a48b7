/- SynodNil. -/
import Derived.Test.YtkpfgoalohbfeaaSS
namespace Go.Proofs.Ytkpfgoalohbfeaa
open Go.RowKit

def Q2 : Qu := ⟨1, 2, 1, 1, []⟩
theorem q2_bad : rightE Q2 = 80 := by kernel_rfl
set_option maxRecDepth 100000 in
set_option maxHeartbeats 8000000 in
theorem nil_law (a : Int) (s : Value) (W : World) : Calls Try.prog 9 #[.int .i64 a, s] W fun e w' => e = .returned (.bool true) ∧ Below W.heap.size W w' := by
  go_enter Try.func9, Try.ntmps9
  go_wp2_with fail
  refine (start_nil a s W).mono ?_
  rintro e w1 ⟨rfl, hf1⟩
  obtain ⟨w2, hw2⟩ : ∃ w2, w2 = w1.alloc (.cells #[.int .u64 0, .int .i64 0] 44) := ⟨_, rfl⟩
  have hf2 : Fr (fun _ => False) w1 w2 := by rw [hw2]; exact (Fr.refl _ w1).alloc _
  have hA2 : Blk w2 w1.heap.size 44 #[.int .u64 0, .int .i64 0] := by rw [hw2]; exact Blk.new _ _ _
  obtain ⟨b6, hb6⟩ : ∃ b, b = w1.heap.size := ⟨_, rfl⟩
  rw [← hb6] at hA2
  have HW2 := Lib.hid (And.intro hw2 hb6)
  have HF2 := Lib.hid (hf1.tr hf2)
  clear hw2 hb6 hf1 hf2
  go_upto_region 3 with (fail)
  rw [← HW2.out.1, ← HW2.out.2]
  clear HW2
  go_wp2_with fail
  refine (look_nil a w2).mono ?_
  rintro e w3 ⟨rfl, hf3⟩
  obtain ⟨w4, hw4⟩ : ∃ w4, w4 = w3.alloc (.cells #[.int .i64 0, .int .i64 0, .int .i64 0, .int .u64 0, .int .i64 0, .slice none 0 0] 68) := ⟨_, rfl⟩
  have hf4 : Fr (fun _ => False) w3 w4 := by rw [hw4]; exact (Fr.refl _ w3).alloc _
  have hA4 := (hA2.fr hf3 (fun h => h)).fr hf4 (fun h => h)
  have HW4 := Lib.hid hw4
  have HF4 := Lib.hid ((HF2.out.tr hf3).tr hf4)
  unfold mail0
  clear hw4 hf3 hf4
  go_upto_region 4 with (fail)
  rw [← HW4.out]
  clear HW4
  go_wp2_with fail
  refine (lrn_nil a w4).mono ?_
  rintro e w5 ⟨rfl, rfl⟩
  go_wp2_with fail
  refine (voted_nil a w4).mono ?_
  rintro e w6 ⟨va, vc, rfl, -, hf6⟩
  rw [show (Value.int .u64 (zeroV.s : Int)) = .int .u64 0 from rfl, show (Value.int .u64 (zeroV.n : Int)) = .int .u64 0 from rfl, show (Value.int .i64 zeroV.d) = .int .i64 0 from rfl, show (Value.slice va zeroV.v.length vc) = Value.slice va 0 vc from rfl, show (Value.int .u64 ((0 : Nat) : Int)) = .int .u64 0 from rfl]
  obtain ⟨w7, hw7⟩ : ∃ w7, w7 = (w6.alloc (.cells #[.int .u64 0, .int .i64 0] 44)).alloc (.cells #[.int .u64 0, .int .u64 0, .int .i64 0, .slice va 0 vc] 46) := ⟨_, rfl⟩
  have hf7 : Fr (fun _ => False) w6 w7 := by rw [hw7]; exact ((Fr.refl _ w6).alloc _).alloc _
  have hB7 : Blk w7 w6.heap.size 44 #[.int .u64 0, .int .i64 0] := by rw [hw7]; exact (Blk.new _ _ _).alloc _
  have hC7 : Blk w7 (w6.heap.size + 1) 46 #[.int .u64 0, .int .u64 0, .int .i64 0, .slice va 0 vc] := by
    have := Blk.new (w6.alloc (.cells #[.int .u64 0, .int .i64 0] 44)) 46 #[.int .u64 0, .int .u64 0, .int .i64 0, .slice va 0 vc]
    rw [hw7]; simpa using this
  have hA7 := (hA4.fr hf6 (fun h => h)).fr hf7 (fun h => h)
  obtain ⟨b7, hb7⟩ : ∃ b, b = w6.heap.size := ⟨_, rfl⟩
  rw [← hb7] at hB7 hC7
  have HW7 := Lib.hid (And.intro hw7 hb7)
  have HF7 := Lib.hid ((HF4.out.tr hf6).tr hf7)
  clear hw7 hb7 hf6 hf7 hA2 hA4
  go_upto_region 6 with (fail)
  rw [← HW7.out.1, ← HW7.out.2]
  clear HW7
  have hnew := snew_bad Q2 (.slice none 0 0) w7 (ints_nil w7) (Nat.zero_le _) (by rw [q2_bad]; decide)
  rw [q2_bad] at hnew
  simp only [Qu.v, Q2] at hnew
  have HN := Lib.hid hnew
  clear hnew
  have a0 := hA7.cell 0 rfl
  have a1 := hA7.cell 1 rfl
  go_wp2_with fail
  refine HN.out.mono ?_
  rintro e w8 ⟨rfl, hf8⟩
  have hA8 := hA7.fr hf8 (fun h => h)
  have hB8 := hB7.fr hf8 (fun h => h)
  have hC8 := hC7.fr hf8 (fun h => h)
  have HF8 := Lib.hid (HF7.out.tr hf8)
  clear a0 a1 hf8 hA7 hB7 hC7
  have a0 := hA8.cell 0 rfl
  have a1 := hA8.cell 1 rfl
  have c0 := hB8.cell 0 rfl
  have c1 := hB8.cell 1 rfl
  have d0 := hC8.cell 0 rfl
  clear hA8 hB8 hC8
  go_wp2_with fail
  refine (take_nil a w8).mono ?_
  rintro e w9 ⟨rfl, rfl⟩
  go_wp2_with fail
  refine (drop_nil a w8).mono ?_
  rintro e w9 ⟨rfl, rfl⟩
  go_wp2_with fail
  refine (twice_nil a w8).mono ?_
  rintro e w9 ⟨rfl, rfl⟩
  go_wp2_with fail
  refine (crash_nil a w8).mono ?_
  rintro e w9 ⟨rfl, rfl⟩
  go_wp2_with fail
  refine (len_nil w8).mono ?_
  rintro e w9 ⟨rfl, rfl⟩
  go_wp2_with fail
  refine (known_any w8).mono ?_
  rintro e w9 ⟨rfl, hf9⟩
  have HF9 := Lib.hid (HF8.out.tr hf9)
  clear hf9 a0 a1 c0 c1 d0
  go_wp2_with fail
  go_ret
  exact ⟨rfl, (HF9.out.mono (fun _ _ h => h.elim) : Fr (fun k => W.heap.size ≤ k) W _).below (Nat.le_refl _)⟩
end Go.Proofs.Ytkpfgoalohbfeaa
