/- Propose: the walks. -/
import Derived.Test.YtliljjlegofmkaaPM
namespace Go.Proofs.Ytliljjlegofmkaa
open Go.RowKit

set_option maxRecDepth 100000 in
set_option maxHeartbeats 8000000 in
theorem pro_low (r : Nat) (p : Ps) (c : Nat) (G : Nat → Prop) (k : Nat) (A : Option Addr) (n sc : Nat) (w : World) (h : PR w r p c G) (hr : readyB p = true) (hk : k < p.f) :
    Calls Try.prog 16 #[.pointer (some ⟨r, 0, none⟩), .int .u64 k, .slice A n sc] w fun e w' => ProPost r c G w 2 ⟨0, 0, 0, []⟩ p e w' := by
  have hx := h
  obtain ⟨sv, mb, sb, mm, sm, h⟩ := h
  have HX := Lib.hid h
  have HXX := Lib.hid hx
  have hf64 := h.wf.f64
  obtain ⟨w1, hw1⟩ : ∃ w1, w1 = w.alloc (.cells #[.int .u64 0, .int .u64 0, .int .i64 0, .slice none 0 0] 45) := ⟨_, rfl⟩
  have hf1 : Fr (fun _ => False) w w1 := by rw [hw1]; exact (Fr.refl _ w).alloc _
  have hB1 : Blk w1 w.heap.size 45 #[.int .u64 0, .int .u64 0, .int .i64 0, .slice none 0 0] := by rw [hw1]; exact Blk.new _ _ _
  have HW := Lib.hid hw1
  have HR := Lib.hid hr
  clear hw1 hr h hx
  go_enter Try.func16, Try.ntmps16
  go_upto_region 3 with (fail)
  rw [← HW.out]
  clear HW
  go_wp2_with fail
  refine (ready_any r p c G w1 (HXX.out.none_ hf1)).mono ?_
  rintro e w2 ⟨rfl, hf2⟩
  rw [HR.out]
  have hf12 := hf1.tr hf2
  have hB2 := hB1.fr hf2 (fun h => h)
  have c7 : w2.cell? ⟨r, 7, none⟩ = some (.int .u64 p.f) := (HX.out.fr hf12 (fun _ _ _ h => h)).blk.cell 7 rfl
  have hq1 : w.heap.size < w2.heap.size := hB2.lt
  clear hf1 hf2 hB1

  have b0 := hB2.cell 0 rfl
  have b1 := hB2.cell 1 rfl
  have b2 := hB2.cell 2 rfl
  have b3 := hB2.cell 3 rfl
  have b4 := hB2.frozen
  go_wp2_with fail

  have hX : Fr (fun x => x = w.heap.size) w2 ((((w2.setCell ⟨w.heap.size, 0, none⟩ (.int .u64 0)).setCell ⟨w.heap.size, 1, none⟩ (.int .u64 0)).setCell ⟨w.heap.size, 2, none⟩ (.int .i64 0)).setCell ⟨w.heap.size, 3, none⟩ (.slice none 0 0)) :=
    (((Fr.set1 w2 w.heap.size 0 _).setCell (p := ⟨w.heap.size, 1, none⟩) (fun _ => rfl) _).setCell (p := ⟨w.heap.size, 2, none⟩) (fun _ => rfl) _).setCell (p := ⟨w.heap.size, 3, none⟩) (fun _ => rfl) _
  have hW := (((hB2.set_ 0 (.int .u64 0)).set_ 1 (.int .u64 0)).set_ 2 (.int .i64 0)).set_ 3 (.slice none 0 0)
  refine bodyPost_ret (results_row_tmp rfl _ _ w.heap.size 45 #[.int .u64 0, .int .u64 0, .int .i64 0, .slice none 0 0] (0, 0) _ rfl ?_ Try.underlying45 rfl (by kernel_rfl)) rfl ?_
  · show Blk _ w.heap.size 45 _
    simpa using hW
  · exact pro_zero HXX.out (hf12.trans hX (fun x hx h => by rcases h with h | h; exact h; omega)) 2
set_option maxRecDepth 100000 in
set_option maxHeartbeats 8000000 in
theorem pro_again (r : Nat) (p : Ps) (c : Nat) (G : Nat → Prop) (k : Nat) (A : Option Addr) (n sc : Nat) (w : World) (h : PR w r p c G) (hr : readyB p = true) (hk : p.f ≤ k) (hk64 : k < 18446744073709551616) (v : Vt) (X : Nat) (hs : p.sl k = some (v, X)) (hG : ∀ j, G j → j < w.heap.size) :
    Calls Try.prog 16 #[.pointer (some ⟨r, 0, none⟩), .int .u64 k, .slice A n sc] w fun e w' => ProPost r c G w 0 v p e w' := by
  have hx := h
  obtain ⟨sv, mb, sb, mm, sm, h⟩ := h
  have HX := Lib.hid h
  have HXX := Lib.hid hx
  have hf64 := h.wf.f64
  obtain ⟨w1, hw1⟩ : ∃ w1, w1 = w.alloc (.cells #[.int .u64 0, .int .u64 0, .int .i64 0, .slice none 0 0] 45) := ⟨_, rfl⟩
  have hf1 : Fr (fun _ => False) w w1 := by rw [hw1]; exact (Fr.refl _ w).alloc _
  have hB1 : Blk w1 w.heap.size 45 #[.int .u64 0, .int .u64 0, .int .i64 0, .slice none 0 0] := by rw [hw1]; exact Blk.new _ _ _
  have HW := Lib.hid hw1
  have HR := Lib.hid hr
  clear hw1 hr h hx
  go_enter Try.func16, Try.ntmps16
  go_upto_region 3 with (fail)
  rw [← HW.out]
  clear HW
  go_wp2_with fail
  refine (ready_any r p c G w1 (HXX.out.none_ hf1)).mono ?_
  rintro e w2 ⟨rfl, hf2⟩
  rw [HR.out]
  have hf12 := hf1.tr hf2
  have hB2 := hB1.fr hf2 (fun h => h)
  have c7 : w2.cell? ⟨r, 7, none⟩ = some (.int .u64 p.f) := (HX.out.fr hf12 (fun _ _ _ h => h)).blk.cell 7 rfl
  have hq1 : w.heap.size < w2.heap.size := hB2.lt
  clear hf1 hf2 hB1

  have hkk : ¬ k < p.f := by omega
  have hX2 := HX.out.fr hf12 (fun _ _ _ h => h)
  have c10 : w2.cell? ⟨r, 10, none⟩ = some (.map (some sb)) := hX2.blk.cell 10 rfl
  have hlk := hX2.sls.look key64 Try.underlying31 Try.underlying78 (zero_slot w2) k hk64
  have hv := HX.out.wf.sl k v X hs
  rcases hX2.sl k with ⟨hm, hy⟩ | ⟨v', X', g, s, hm, hy, hB, hg, ho⟩
  · rw [hs] at hm; cases hm
  rw [hs] at hm
  injection hm with hm
  injection hm with hm1 hm2
  subst hm1 hm2
  rw [hy] at hlk
  simp only [Option.getD_some, Option.isSome_some] at hlk
  have hby := ho.byt
  have hby0 := hby
  obtain ⟨sa, sc', rfl, -, -⟩ := hby0
  have g0 : w2.cell? ⟨g, 0, none⟩ = some (.int .u64 v.s) := hB.cell 0 rfl
  have g1 : w2.cell? ⟨g, 1, none⟩ = some (.int .u64 v.n) := hB.cell 1 rfl
  have g2 : w2.cell? ⟨g, 2, none⟩ = some (.int .i64 v.d) := hB.cell 2 rfl
  have g3 : w2.cell? ⟨g, 3, none⟩ = some (.slice sa v.v.length sc') := hB.cell 3 rfl
  have hvl := hv.2.2.1
  have HF := Lib.hid hf12
  clear hX2 hv hs hy ho hB hg hf12 hk
  go_wp2_with fail
  refine (out_any v _ w2 hby (by omega)).mono ?_
  rintro e w3 ⟨g', cap, rfl, hg', hgl', ho3, hf3⟩
  have hB3 := hB2.fr hf3 (fun h => h)
  clear c7 c10 g0 g1 g2 g3 hlk hB2
  have b0 := hB3.cell 0 rfl
  have b1 := hB3.cell 1 rfl
  have b2 := hB3.cell 2 rfl
  have b3 := hB3.cell 3 rfl
  have b4 := hB3.frozen
  simp only [vtV]
  have H3 := Lib.hid (And.intro ho3 hf3)
  clear ho3 hf3
  go_wp2_with fail
  have hX : Fr (fun x => x = w.heap.size) w3 ((((w3.setCell ⟨w.heap.size, 0, none⟩ (.int .u64 v.s)).setCell ⟨w.heap.size, 1, none⟩ (.int .u64 v.n)).setCell ⟨w.heap.size, 2, none⟩ (.int .i64 v.d)).setCell ⟨w.heap.size, 3, none⟩ (.slice (some ⟨g', 0, none⟩) v.v.length cap)) :=
    (((Fr.set1 w3 w.heap.size 0 _).setCell (p := ⟨w.heap.size, 1, none⟩) (fun _ => rfl) _).setCell (p := ⟨w.heap.size, 2, none⟩) (fun _ => rfl) _).setCell (p := ⟨w.heap.size, 3, none⟩) (fun _ => rfl) _
  have hW := (((hB3.set_ 0 (.int .u64 v.s)).set_ 1 (.int .u64 v.n)).set_ 2 (.int .i64 v.d)).set_ 3 (.slice (some ⟨g', 0, none⟩) v.v.length cap)
  obtain ⟨ho3, hf3⟩ := H3.out
  have hfE := (HF.out.tr hf3).trans hX (Z := fun _ => False) (fun x hx h => by rcases h with h | h; exact h; omega)
  refine bodyPost_ret (results_row_tmp rfl _ _ w.heap.size 45 #[.int .u64 v.s, .int .u64 v.n, .int .i64 v.d, .slice (some ⟨g', 0, none⟩) v.v.length cap] (0, 0) _ rfl ?_ Try.underlying45 rfl (by kernel_rfl)) rfl ?_
  · show Blk _ w.heap.size 45 _
    simpa using hW
  · refine ⟨some ⟨g', 0, none⟩, cap, G, rfl, own_up (own_fr ho3 hX (fun j hj => by simp [Value.ownBlock] at hj; omega)) (fun j hj => by simp [Value.ownBlock] at hj; omega), (HXX.out.none_ hfE).mono (by omega), Nx.refl _ _ _, fun j hj hG' => ?_, hfE.none_up⟩
    simp [Value.ownBlock] at hj
    have := hG j hG'
    omega
end Go.Proofs.Ytliljjlegofmkaa
