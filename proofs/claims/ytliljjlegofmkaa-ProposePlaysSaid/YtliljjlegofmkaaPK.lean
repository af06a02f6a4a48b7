/- Promise: the walk. -/
import Derived.Test.YtliljjlegofmkaaPJ
import Derived.WalkMore
namespace Go.Proofs.Ytliljjlegofmkaa
open Go.RowKit

theorem shr_one (X j : Nat) : bits .and .u32 (((X / 2 ^ j : Nat) : Int) % 4294967296) 1 = if X.testBit j then 1 else 0 := by
  have h := u32_and_nat (X / 2 ^ j % 4294967296) 1 (by omega) (by omega)
  rw [nat_mask1] at h
  rw [show (((X / 2 ^ j : Nat) : Int) % 4294967296) = ((X / 2 ^ j % 4294967296 : Nat) : Int) by omega, show (1 : Int) = ((1 : Nat) : Int) from rfl, h]
  rw [Nat.testBit_eq_decide_div_mod_eq]
  by_cases e : X / 2 ^ j % 2 = 1
  · simp [e]
  · rw [show X / 2 ^ j % 4294967296 % 2 = 0 by omega]; simp [e]

theorem shr_two (X j : Nat) (hX : X < 4294967296) : bits .and .u32 ((X : Int) / 2 ^ j) 1 = if X.testBit j = true then 1 else 0 := by
  have h := shr_one X j
  have e : ((X / 2 ^ j : Nat) : Int) = (X : Int) / 2 ^ j := by simp
  have hle : X / 2 ^ j ≤ X := Nat.div_le_self _ _
  generalize X / 2 ^ j = y at h e hle
  rw [Int.emod_eq_of_lt (by omega) (by omega), e] at h
  exact h

set_option maxRecDepth 100000 in
set_option maxHeartbeats 4000000 in
theorem prm_node (r : Nat) (p : Ps) (x : Int) (v : Value) (w : World) (h : w.cell? ⟨r, 1, none⟩ = some (.int .i64 p.q.n)) (hb : nodeB p x = false) (A : Option Addr) (n c : Nat) (hv : v = .slice A n c) :
    Calls Try.prog 14 #[.pointer (some ⟨r, 0, none⟩), .int .i64 x, v] w fun e w' => e = .returned (.int .i64 2) ∧ w = w' := by
  subst hv
  have HB := Lib.hid hb
  clear hb
  go_enter Try.func14, Try.ntmps14
  go_upto_block 0 with (fail)
  go_step3
  go_wp2_with fail
  refine (node_any r p x w h).mono ?_
  rintro e w1 ⟨rfl, rfl⟩
  rw [HB.out]
  go_wp2_with fail
  try rw [Exit.noGoto_ret]
  go_ret
  exact ⟨rfl, rfl⟩

set_option maxRecDepth 100000 in
set_option maxHeartbeats 4000000 in
theorem prm_right (r : Nat) (p : Ps) (sv : Value) (mb sb : Nat) (x : Int) (v : Value) (l : List Vt) (w : World) (h : Blk w r 80 (prC p sv mb sb)) (hf1 : 1 ≤ p.f) (hf64 : p.f < 18446744073709551616) (hl : VtL w v l (fun _ => False))
    (hb : nodeB p x = true) (hr : rightV p.n p.d (p.f - 1) l = false) :
    Calls Try.prog 14 #[.pointer (some ⟨r, 0, none⟩), .int .i64 x, v] w fun e w' => e = .returned (.int .i64 91) ∧ Fr (fun _ => False) w w' := by
  have HR := Lib.hid (right_v r p sv mb sb v l w h hf1 hf64 hl)
  obtain ⟨⟨A, c, rfl, -⟩, -⟩ := hl
  have c1 : w.cell? ⟨r, 1, none⟩ = some (.int .i64 p.q.n) := h.cell 1 rfl
  have HB := Lib.hid hb
  have HQ := Lib.hid hr
  clear hb hr h
  go_enter Try.func14, Try.ntmps14
  go_upto_block 0 with (fail)
  go_step3
  go_wp2_with fail
  refine (node_any r p x w c1).mono ?_
  rintro e w1 ⟨rfl, rfl⟩
  rw [HB.out]
  go_wp2_with fail
  refine HR.out.mono ?_
  rintro e w1 ⟨rfl, hf1⟩
  rw [HQ.out]
  go_wp2_with fail
  try rw [Exit.noGoto_ret]
  go_ret
  exact ⟨rfl, hf1⟩

set_option maxRecDepth 100000 in
set_option maxHeartbeats 4000000 in
theorem prm_had (r : Nat) (p : Ps) (sv : Value) (mb sb : Nat) (x : Nat) (v : Value) (l : List Vt) (w : World) (h : Blk w r 80 (prC p sv mb sb)) (hf1 : 1 ≤ p.f) (hf64 : p.f < 18446744073709551616) (hst : p.set < 4096) (hx : x < 12) (hl : VtL w v l (fun _ => False))
    (hb : nodeB p x = true) (hr : rightV p.n p.d (p.f - 1) l = true) (ht : p.set.testBit x = true) :
    Calls Try.prog 14 #[.pointer (some ⟨r, 0, none⟩), .int .i64 x, v] w fun e w' => e = .returned (.int .i64 0) ∧ Fr (fun _ => False) w w' := by
  have HR := Lib.hid (right_v r p sv mb sb v l w h hf1 hf64 hl)
  obtain ⟨⟨A, c, rfl, -⟩, -⟩ := hl
  have c1 : w.cell? ⟨r, 1, none⟩ = some (.int .i64 p.q.n) := h.cell 1 rfl
  have c8 : w.cell? ⟨r, 8, none⟩ = some (.int .u32 p.set) := h.cell 8 rfl
  have HB := Lib.hid hb
  have HQ := Lib.hid hr
  have hv1 := shr_two p.set x (by omega)
  rw [ht] at hv1
  simp only [if_true] at hv1
  have hmin : min x 32 = x := by omega
  clear hb hr h ht
  go_enter Try.func14, Try.ntmps14
  go_upto_block 0 with (fail)
  go_step3
  go_wp2_with fail
  refine (node_any r p x w c1).mono ?_
  rintro e w1 ⟨rfl, rfl⟩
  rw [HB.out]
  go_wp2_with fail
  refine HR.out.mono ?_
  rintro e w1 ⟨rfl, hf1⟩
  rw [HQ.out]
  have c8' := hf1.cell c8 (fun h => h)
  clear c8 c1
  go_wp2_with fail
  try rw [Exit.noGoto_ret]
  go_ret
  exact ⟨rfl, hf1⟩
end Go.Proofs.Ytliljjlegofmkaa
