/- ProposeNil. -/
import Derived.Test.YtliljjlegofmkaaPT
import Derived.Test.YtliljjlegofmkaaPU
namespace Go.Proofs.Ytliljjlegofmkaa
open Go.RowKit

set_option maxRecDepth 100000 in
set_option maxHeartbeats 8000000 in
theorem nil_law (k n : Int) (s : Nat) (A : Option Addr) (la ca : Nat) (B : Option Addr) (lb cb : Nat) (W : World) :
    Calls Try.prog 9 #[.agg #[.int .i64 k, .int .i64 n, .int .u64 s, .slice A la ca, .slice B lb cb]] W fun e w' => e = .returned (.bool true) ∧ Below W.heap.size W w' := by
  obtain ⟨w1, hw1⟩ : ∃ w1, w1 = W.alloc (.cells #[.int .i64 k, .int .i64 n, .int .u64 s, .slice A la ca, .slice B lb cb] 58) := ⟨_, rfl⟩
  have hf1 : Fr (fun _ => False) W w1 := by rw [hw1]; exact (Fr.refl _ W).alloc _
  have hB : Blk w1 W.heap.size 58 #[.int .i64 k, .int .i64 n, .int .u64 s, .slice A la ca, .slice B lb cb] := by rw [hw1]; exact Blk.new _ _ _
  have HW := Lib.hid hw1
  have HS : ∀ wx, Fr (fun _ => False) w1 wx → wx.cell? ⟨W.heap.size, 1, none⟩ = some (.int .i64 n) ∧ wx.cell? ⟨W.heap.size, 2, none⟩ = some (.int .u64 s) ∧ wx.cell? ⟨W.heap.size, 3, none⟩ = some (.slice A la ca) ∧ wx.cell? ⟨W.heap.size, 4, none⟩ = some (.slice B lb cb) :=
    fun wx h => ⟨(hB.fr h (fun h => h)).cell 1 rfl, (hB.fr h (fun h => h)).cell 2 rfl, (hB.fr h (fun h => h)).cell 3 rfl, (hB.fr h (fun h => h)).cell 4 rfl⟩
  have HK := Lib.hid HS
  clear HS hw1 hB
  obtain ⟨b1, b2, b3, b4⟩ := HK.out w1 (Fr.refl _ _)
  go_enter Try.func9, Try.ntmps9
  go_upto_region 2 with (fail)
  rw [← HW.out]
  clear HW
  go_wp2_with fail
  refine (pro_nil s A la ca w1).mono ?_
  rintro e w2 ⟨rfl, hf2⟩
  clear b1 b2 b3 b4
  obtain ⟨w3, hw3⟩ : ∃ w3, w3 = w2.alloc (.cells #[.int .u64 0, .int .u64 0, .int .i64 0, .slice none 0 0] 45) := ⟨_, rfl⟩
  have hf3 : Fr (fun _ => False) w2 w3 := by rw [hw3]; exact (Fr.refl _ w2).alloc _
  have hV : Blk w3 w2.heap.size 45 #[.int .u64 0, .int .u64 0, .int .i64 0, .slice none 0 0] := by rw [hw3]; exact Blk.new _ _ _
  have HW3 := Lib.hid hw3
  have hf13 := hf2.tr hf3
  clear hw3 hf2 hf3
  go_upto_region 3 with (fail)
  rw [← HW3.out]
  clear HW3
  obtain ⟨q, hq⟩ : ∃ q, q = w2.heap.size := ⟨_, rfl⟩
  rw [← hq] at hV ⊢
  clear hq
  obtain ⟨b1, b2, b3, b4⟩ := HK.out w3 hf13
  go_wp2_with fail
  refine (must_nil s w3).mono ?_
  rintro e w4 ⟨rfl, rfl⟩
  go_wp2_with fail
  refine (chosen_nil s w3).mono ?_
  rintro e w4 ⟨rfl, rfl⟩
  go_wp2_with fail
  refine (prm_nil n B lb cb w3).mono ?_
  rintro e w4 ⟨rfl, rfl⟩
  have v3 : w3.cell? ⟨q, 3, none⟩ = some (.slice none 0 0) := hV.cell 3 rfl
  go_wp2_with fail
  refine (acc_nil n s w3).mono ?_
  rintro e w4 ⟨rfl, rfl⟩
  go_wp2_with fail
  refine (ready_nil w3).mono ?_
  rintro e w4 ⟨rfl, hf4⟩
  have hf14 := hf13.tr hf4
  clear b1 b2 b3 b4 v3 hV hf4
  go_wp2_with fail
  refine (top_nil w4).mono ?_
  rintro e w5 ⟨rfl, rfl⟩
  go_wp2_with fail
  refine (prefix_nil w4).mono ?_
  rintro e w5 ⟨rfl, rfl⟩
  go_wp2_with fail
  refine (known_any w4).mono ?_
  rintro e w5 ⟨rfl, hf5⟩
  go_wp2_with fail
  go_ret
  exact ⟨rfl, ((hf1.tr hf14).tr hf5).none_up.below (Nat.le_refl _)⟩
theorem nil_any (x : At) (os vs : Value) (W : World) (ho : Byt W os x.o) (hv : VtL W vs x.v (fun k => W.heap.size ≤ k)) :
    Calls Try.prog 9 #[.agg #[.int .i64 x.k, .int .i64 x.n, .int .u64 x.s, os, vs]] W fun e w' => e = .returned (.bool true) ∧ Below W.heap.size W w' := by
  obtain ⟨A, c, rfl, -, -⟩ := ho
  obtain ⟨⟨B, cb, rfl, -⟩, -⟩ := hv
  exact nil_law x.k x.n x.s A x.o.length c B x.v.length cb W
end Go.Proofs.Ytliljjlegofmkaa
