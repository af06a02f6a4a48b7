/- Propose: a slot put: the walks. -/
import Derived.Test.YtliljjlegofmkaaPM
namespace Go.Proofs.Ytliljjlegofmkaa
open Go.RowKit

set_option maxRecDepth 100000 in
set_option maxHeartbeats 8000000 in
theorem pro_long (r : Nat) (p : Ps) (c : Nat) (G : Nat → Prop) (k : Nat) (A : Option Addr) (sc : Nat) (own : List UInt8) (w : World) (h : PR w r p c G) (hby : Byt w (.slice A own.length sc) own) (hr : readyB p = true) (hk : p.f ≤ k) (hk64 : k < 18446744073709551616) (hs : p.sl k = none) (hm : p.mu k = none) (hl : 100 < own.length) :
    Calls Try.prog 16 #[.pointer (some ⟨r, 0, none⟩), .int .u64 k, .slice A own.length sc] w fun e w' => ProPost r c G w 3 ⟨0, 0, 0, []⟩ p e w' := by
  have hx := h
  obtain ⟨sv, mb, sb, mm, sm, h⟩ := h
  have HX := Lib.hid h
  have HXX := Lib.hid hx
  have hf64 := h.wf.f64
  obtain ⟨w1, hw1⟩ : ∃ w1, w1 = w.alloc (.cells #[.int .u64 0, .int .u64 0, .int .i64 0, .slice none 0 0] 45) := ⟨_, rfl⟩
  have hf1 : Fr (fun _ => False) w w1 := by rw [hw1]; exact (Fr.refl _ w).alloc _
  have hB1 : Blk w1 w.heap.size 45 #[.int .u64 0, .int .u64 0, .int .i64 0, .slice none 0 0] := by rw [hw1]; exact Blk.new _ _ _
  have HW := Lib.hid hw1
  have HR := Lib.hid hr
  clear hw1 hr h hx
  go_enter Try.func16, Try.ntmps16
  go_upto_region 3 with (fail)
  rw [← HW.out]
  clear HW
  go_wp2_with fail
  refine (ready_any r p c G w1 (HXX.out.none_ hf1)).mono ?_
  rintro e w2 ⟨rfl, hf2⟩
  rw [HR.out]
  have hf12 := hf1.tr hf2
  have hB2 := hB1.fr hf2 (fun h => h)
  have c7 : w2.cell? ⟨r, 7, none⟩ = some (.int .u64 p.f) := (HX.out.fr hf12 (fun _ _ _ h => h)).blk.cell 7 rfl
  have hq1 : w.heap.size < w2.heap.size := hB2.lt
  clear hf1 hf2 hB1

  have hkk : ¬ k < p.f := by omega
  have hX2 := HX.out.fr hf12 (fun _ _ _ h => h)
  have c9 : w2.cell? ⟨r, 9, none⟩ = some (.map (some mb)) := hX2.blk.cell 9 rfl
  have c10 : w2.cell? ⟨r, 10, none⟩ = some (.map (some sb)) := hX2.blk.cell 10 rfl
  have hlk := hX2.sls.look key64 Try.underlying31 Try.underlying78 (zero_slot w2) k hk64
  have hlm := hX2.mus.look key64 Try.underlying31 Try.underlying77 (zero_must w2) k hk64
  have hy : sm k = none := by
    rcases hX2.sl k with ⟨_, hy⟩ | ⟨v', X', g, s, hm, hy, hB, hg, ho⟩
    · exact hy
    · rw [hs] at hm; cases hm
  rw [hy] at hlk
  simp only [Option.getD_none, Option.isSome_none] at hlk
  have HS := Lib.hid hs
  clear hy hs

  have hym : mm k = none := by
    rcases hX2.mu k with ⟨_, hy⟩ | ⟨v', X', s, hm', hy, ho⟩
    · exact hy
    · rw [hm] at hm'; cases hm'
  rw [hym] at hlm
  simp only [Option.getD_none, Option.isSome_none] at hlm
  have HM := Lib.hid hm
  clear hm hym
  obtain ⟨w3, hw3⟩ : ∃ w3, w3 = w2.alloc (.cells #[.int .u64 0, .int .u64 0, .int .i64 0, .slice none 0 0, .int .i64 0] 84) := ⟨_, rfl⟩
  have hf3 : Fr (fun _ => False) w2 w3 := by rw [hw3]; exact (Fr.refl _ w2).alloc _
  have hB3 := hB2.fr hf3 (fun h => h)
  have hby3 := hby.fr (hf12.tr hf3) (fun _ _ h => h)
  have HW3 := Lib.hid hw3
  have HF3 := Lib.hid (hf12.tr hf3)
  have hX3 := hX2.fr hf3 (fun _ _ _ h => h)
  clear hw3 hX2 hf3 hf12 hB2 hk

  have hl' : (100 : Int) < (own.length : Int) := by omega
  go_upto_region 13 with (fail)
  rw [← HW3.out]
  clear HW3 c7 c9 c10 hlk hlm
  have b0 := hB3.cell 0 rfl
  have b1 := hB3.cell 1 rfl
  have b2 := hB3.cell 2 rfl
  have b3 := hB3.cell 3 rfl
  have b4 := hB3.frozen
  have HX3 := Lib.hid hX3
  clear hX3
  go_wp2_with fail

  have hX : Fr (fun x => x = w.heap.size) w3 ((((w3.setCell ⟨w.heap.size, 0, none⟩ (.int .u64 0)).setCell ⟨w.heap.size, 1, none⟩ (.int .u64 0)).setCell ⟨w.heap.size, 2, none⟩ (.int .i64 0)).setCell ⟨w.heap.size, 3, none⟩ (.slice none 0 0)) :=
    (((Fr.set1 w3 w.heap.size 0 _).setCell (p := ⟨w.heap.size, 1, none⟩) (fun _ => rfl) _).setCell (p := ⟨w.heap.size, 2, none⟩) (fun _ => rfl) _).setCell (p := ⟨w.heap.size, 3, none⟩) (fun _ => rfl) _
  have hW := (((hB3.set_ 0 (.int .u64 0)).set_ 1 (.int .u64 0)).set_ 2 (.int .i64 0)).set_ 3 (.slice none 0 0)
  refine bodyPost_ret (results_row_tmp rfl _ _ w.heap.size 45 #[.int .u64 0, .int .u64 0, .int .i64 0, .slice none 0 0] (0, 0) _ rfl ?_ Try.underlying45 rfl (by kernel_rfl)) rfl ?_
  · show Blk _ w.heap.size 45 _
    simpa using hW
  · exact pro_zero HXX.out (HF3.out.trans hX (fun x hx h => by rcases h with h | h; exact h; omega)) 3
set_option maxRecDepth 100000 in
set_option maxHeartbeats 8000000 in
theorem pro_put (r : Nat) (p : Ps) (c : Nat) (G : Nat → Prop) (k : Nat) (A : Option Addr) (sc : Nat) (own : List UInt8) (w : World) (h : PR w r p c G) (hby : Byt w (.slice A own.length sc) own) (hr : readyB p = true) (hk : p.f ≤ k) (hk64 : k < 18446744073709551616) (hs : p.sl k = none) (hm : p.mu k = none) (hl : own.length ≤ 100) (hc : c < maxLen) (hG : ∀ j, G j → j < w.heap.size) :
    Calls Try.prog 16 #[.pointer (some ⟨r, 0, none⟩), .int .u64 k, .slice A own.length sc] w fun e w' => ProPost r c G w 0 ⟨k, p.n, p.d, own⟩ { p with sl := upd p.sl k (⟨k, p.n, p.d, own⟩, 0) } e w' := by
  have hx := h
  obtain ⟨sv, mb, sb, mm, sm, h⟩ := h
  have HX := Lib.hid h
  have HXX := Lib.hid hx
  have hf64 := h.wf.f64
  obtain ⟨w1, hw1⟩ : ∃ w1, w1 = w.alloc (.cells #[.int .u64 0, .int .u64 0, .int .i64 0, .slice none 0 0] 45) := ⟨_, rfl⟩
  have hf1 : Fr (fun _ => False) w w1 := by rw [hw1]; exact (Fr.refl _ w).alloc _
  have hB1 : Blk w1 w.heap.size 45 #[.int .u64 0, .int .u64 0, .int .i64 0, .slice none 0 0] := by rw [hw1]; exact Blk.new _ _ _
  have HW := Lib.hid hw1
  have HR := Lib.hid hr
  clear hw1 hr h hx
  go_enter Try.func16, Try.ntmps16
  go_upto_region 3 with (fail)
  rw [← HW.out]
  clear HW
  go_wp2_with fail
  refine (ready_any r p c G w1 (HXX.out.none_ hf1)).mono ?_
  rintro e w2 ⟨rfl, hf2⟩
  rw [HR.out]
  have hf12 := hf1.tr hf2
  have hB2 := hB1.fr hf2 (fun h => h)
  have c7 : w2.cell? ⟨r, 7, none⟩ = some (.int .u64 p.f) := (HX.out.fr hf12 (fun _ _ _ h => h)).blk.cell 7 rfl
  have hq1 : w.heap.size < w2.heap.size := hB2.lt
  clear hf1 hf2 hB1

  have hkk : ¬ k < p.f := by omega
  have hX2 := HX.out.fr hf12 (fun _ _ _ h => h)
  have c9 : w2.cell? ⟨r, 9, none⟩ = some (.map (some mb)) := hX2.blk.cell 9 rfl
  have c10 : w2.cell? ⟨r, 10, none⟩ = some (.map (some sb)) := hX2.blk.cell 10 rfl
  have hlk := hX2.sls.look key64 Try.underlying31 Try.underlying78 (zero_slot w2) k hk64
  have hlm := hX2.mus.look key64 Try.underlying31 Try.underlying77 (zero_must w2) k hk64
  have hy : sm k = none := by
    rcases hX2.sl k with ⟨_, hy⟩ | ⟨v', X', g, s, hm, hy, hB, hg, ho⟩
    · exact hy
    · rw [hs] at hm; cases hm
  rw [hy] at hlk
  simp only [Option.getD_none, Option.isSome_none] at hlk
  have HS := Lib.hid hs
  clear hy hs

  have hym : mm k = none := by
    rcases hX2.mu k with ⟨_, hy⟩ | ⟨v', X', s, hm', hy, ho⟩
    · exact hy
    · rw [hm] at hm'; cases hm'
  rw [hym] at hlm
  simp only [Option.getD_none, Option.isSome_none] at hlm
  have HM := Lib.hid hm
  clear hm hym
  obtain ⟨w3, hw3⟩ : ∃ w3, w3 = w2.alloc (.cells #[.int .u64 0, .int .u64 0, .int .i64 0, .slice none 0 0, .int .i64 0] 84) := ⟨_, rfl⟩
  have hf3 : Fr (fun _ => False) w2 w3 := by rw [hw3]; exact (Fr.refl _ w2).alloc _
  have hB3 := hB2.fr hf3 (fun h => h)
  have hby3 := hby.fr (hf12.tr hf3) (fun _ _ h => h)
  have HW3 := Lib.hid hw3
  have HF3 := Lib.hid (hf12.tr hf3)
  have hX3 := hX2.fr hf3 (fun _ _ _ h => h)
  clear hw3 hX2 hf3 hf12 hB2 hk

  have hl' : ¬ (100 : Int) < (own.length : Int) := by omega
  go_upto_region 13 with (fail)
  rw [← HW3.out]
  clear HW3 c7 c9 c10 hlk hlm

  have c5 : w3.cell? ⟨r, 5, none⟩ = some (.int .u64 p.n) := hX3.blk.cell 5 rfl
  have c6 : w3.cell? ⟨r, 6, none⟩ = some (.int .i64 p.d) := hX3.blk.cell 6 rfl
  have HX3 := Lib.hid hX3
  have hq3 := hB3.lt
  clear hX3
  go_wp2_with fail
  refine (out_any ⟨k, p.n, p.d, own⟩ _ w3 hby3 (by simp only; omega)).mono ?_
  rintro e w4 ⟨g1, cap1, rfl, hg1, hgl1, ho4, hf4⟩
  simp only [vtV] at ho4 ⊢
  obtain ⟨w5, hw5⟩ : ∃ w5, w5 = w4.alloc (.cells #[.int .u64 k, .int .u64 p.n, .int .i64 p.d, .slice (some ⟨g1, 0, none⟩) (own).length cap1] 45) := ⟨_, rfl⟩
  have hf5 : Fr (fun _ => False) w4 w5 := by rw [hw5]; exact (Fr.refl _ w4).alloc _
  have hf35 := hf4.tr hf5
  have hB5 := hB3.fr hf35 (fun h => h)
  have hX5 := HX3.out.fr hf35 (fun _ _ _ h => h)
  have hV5 : Blk w5 w4.heap.size 45 #[.int .u64 k, .int .u64 p.n, .int .i64 p.d, .slice (some ⟨g1, 0, none⟩) (own).length cap1] := by rw [hw5]; exact Blk.new _ _ _
  have ho5 := own_fr ho4 hf5 (fun _ _ h => h)
  have HW5 := Lib.hid hw5
  clear hw5 c5 c6 ho4 hf5 hB3 hby3
  go_upto_region 16 with (fail)
  rw [← HW5.out]
  clear HW5
  obtain ⟨q, hq⟩ : ∃ q, q = w4.heap.size := ⟨_, rfl⟩
  rw [← hq] at hV5 ⊢
  have HQ := Lib.hid hq
  clear hq
  have c10 : w5.cell? ⟨r, 10, none⟩ = some (.map (some sb)) := hX5.blk.cell 10 rfl
  have v0 : w5.cell? ⟨q, 0, none⟩ = some (.int .u64 k) := hV5.cell 0 rfl
  have v1 : w5.cell? ⟨q, 1, none⟩ = some (.int .u64 p.n) := hV5.cell 1 rfl
  have v2 : w5.cell? ⟨q, 2, none⟩ = some (.int .i64 p.d) := hV5.cell 2 rfl
  have v3 : w5.cell? ⟨q, 3, none⟩ = some (.slice (some ⟨g1, 0, none⟩) (own).length cap1) := hV5.cell 3 rfl
  obtain ⟨Z, hZ⟩ : ∃ Z, Z = Obj.cells #[.int .u64 k, .int .u64 p.n, .int .i64 p.d, .slice (some ⟨g1, 0, none⟩) (own).length cap1, .int .u32 0] 91 := ⟨_, rfl⟩
  have c10z := al_cell c10 Z
  obtain ⟨w6, hw6⟩ : ∃ w6, w6 = (w5.alloc Z).drew := ⟨_, rfl⟩
  have hf6 : Fr (fun _ => False) w5 w6 := by rw [hw6]; exact ((Fr.refl _ w5).alloc Z).drew
  have hS6 : Blk w6 w5.heap.size 91 (slC ⟨k, p.n, p.d, own⟩ 0 (.slice (some ⟨g1, 0, none⟩) (own).length cap1)) := by rw [hw6, hZ]; exact Blk.new _ _ _
  have hX6 := (hX5.fr hf6 (fun _ _ _ h => h)).up (G' := fun j => G j ∨ j = g1 ∨ j = w5.heap.size) (fun _ _ h => .inl h)
  have hne6 := hX5.new_ne (g := w5.heap.size) (Nat.le_refl _)
  have hcm : c < maxLen := hc
  obtain ⟨w7, hrun, hm7, hf7, hz7⟩ := hX6.sls.update key64 Try.underlying31 Try.underlying78 hcm k hk64 (.pointer (some ⟨w5.heap.size, 0, none⟩))
  have hP7 := hX6.putSl (v := ⟨k, p.n, p.d, own⟩) (s := .slice (some ⟨g1, 0, none⟩) (own).length cap1) (k := k) rfl hk64 (by omega) rfl rfl hS6 (.inr (.inr rfl))
    ⟨own_fr ho5 hf6 (fun _ _ h => h), fun j hj => by simp [Value.ownBlock] at hj; exact .inr (.inl hj.symm)⟩ (by simp only; omega) hne6 hm7 hf7
  have hf57 : Fr (fun j => j = sb) w5 w7 := hf6.none_up.tr hf7
  have hB7 := hB5.fr hf57 (fun e => hX5.sls.blk_ne hB5 e)
  have hV7 := hV5.fr hf57 (fun e => hX5.sls.blk_ne hV5 e)
  have hb7 : Byt w7 (.slice (some ⟨g1, 0, none⟩) (own).length cap1) (own) := Byt.of_own (own_fr ho5 hf57 (fun j hj => hX5.sls.own_ne ho5 j hj))
  have HZZ := Lib.hid (show w5.heap.size < w7.heap.size by have := hS6.lt; omega)
  have hgl5 := own_lt ho5 (k := g1) rfl
  have H7 := Lib.hid (And.intro hP7 (And.intro hf35 (And.intro hf57 hX5.sbG)))
  rw [hw6, hZ] at hrun
  rw [hZ] at c10z
  clear hw6 hZ hf6 hS6 hX6 hne6 hm7 hf7 hz7 hP7 hf57 hB5 hX5 hV5 ho5 hf35 hf4
  go_region
  all_goals
    clear c10 c10z v0 v1 v2 v3 hrun
    have v0 : w7.cell? ⟨q, 0, none⟩ = some (.int .u64 k) := hV7.cell 0 rfl
    have v1 : w7.cell? ⟨q, 1, none⟩ = some (.int .u64 p.n) := hV7.cell 1 rfl
    have v2 : w7.cell? ⟨q, 2, none⟩ = some (.int .i64 p.d) := hV7.cell 2 rfl
    have v3 : w7.cell? ⟨q, 3, none⟩ = some (.slice (some ⟨g1, 0, none⟩) (own).length cap1) := hV7.cell 3 rfl
    go_wp2_with fail
    refine (out_any ⟨k, p.n, p.d, own⟩ _ w7 hb7 (by simp only; omega)).mono ?_
    rintro e w8 ⟨g2, cap2, rfl, hg2, hgl2, ho8, hf8⟩
    simp only [vtV] at ho8 ⊢
    have hB8 := hB7.fr hf8 (fun h => h)
    clear v0 v1 v2 v3
    have b0 := hB8.cell 0 rfl
    have b1 := hB8.cell 1 rfl
    have b2 := hB8.cell 2 rfl
    have b3 := hB8.cell 3 rfl
    have b4 := hB8.frozen
    have H8 := Lib.hid (And.intro ho8 hf8)
    clear ho8 hf8
    go_wp2_with fail
    have hX : Fr (fun x => x = w.heap.size) w8 ((((w8.setCell ⟨w.heap.size, 0, none⟩ (.int .u64 k)).setCell ⟨w.heap.size, 1, none⟩ (.int .u64 p.n)).setCell ⟨w.heap.size, 2, none⟩ (.int .i64 p.d)).setCell ⟨w.heap.size, 3, none⟩ (.slice (some ⟨g2, 0, none⟩) (own).length cap2)) :=
      (((Fr.set1 w8 w.heap.size 0 _).setCell (p := ⟨w.heap.size, 1, none⟩) (fun _ => rfl) _).setCell (p := ⟨w.heap.size, 2, none⟩) (fun _ => rfl) _).setCell (p := ⟨w.heap.size, 3, none⟩) (fun _ => rfl) _
    have hW := (((hB8.set_ 0 (.int .u64 k)).set_ 1 (.int .u64 p.n)).set_ 2 (.int .i64 p.d)).set_ 3 (.slice (some ⟨g2, 0, none⟩) (own).length cap2)
    obtain ⟨ho8, hf8⟩ := H8.out
    obtain ⟨hP7, hf35, hf57, hsb⟩ := H7.out
    have z3 := HF3.out.size
    have z5 := hf35.size
    have z7 := hf57.size
    have z8 := hf8.size
    have hzz := HZZ.out
    refine bodyPost_ret (results_row_tmp rfl _ _ w.heap.size 45 #[.int .u64 k, .int .u64 p.n, .int .i64 p.d, .slice (some ⟨g2, 0, none⟩) (own).length cap2] (0, 0) _ rfl ?_ Try.underlying45 rfl (by kernel_rfl)) rfl ?_
    · show Blk _ w.heap.size 45 _
      simpa using hW
    · have hF3 : Fr G w w7 := (HF3.out.tr hf35).none_up.trans hf57 (fun x hx h => by rcases h with h | h; exact h; subst h; exact hsb)
      have hFE : Fr G w _ := (hF3.tr hf8.none_up).trans hX (fun x hx h => by rcases h with h | h; exact h; omega)
      have hXw := hX.size
      refine ⟨some ⟨g2, 0, none⟩, cap2, (fun j => G j ∨ j = g1 ∨ j = w5.heap.size), rfl, own_up (own_fr ho8 hX (fun j hj => by simp [Value.ownBlock] at hj; omega)) (fun j hj => by simp [Value.ownBlock] at hj; omega),
        ⟨_, _, _, _, _, (hP7.fr hf8 (fun _ _ _ h => h)).fr hX (fun j hj h e => ?_)⟩, fun j hj => ?_, fun j hj hj2 => ?_, hFE⟩
      · have e' : j = w.heap.size := e
        rcases h with h | h | h
        · have := hG j h; omega
        · omega
        · omega
      · rcases hj with h | h | h
        · exact .inl h
        · exact .inr ⟨by omega, by omega⟩
        · exact .inr ⟨by omega, by omega⟩
      · simp [Value.ownBlock] at hj
        rcases hj2 with h | h | h
        · have := hG j h; omega
        · omega
        · omega
set_option maxRecDepth 100000 in
set_option maxHeartbeats 8000000 in
theorem pro_putm (r : Nat) (p : Ps) (c : Nat) (G : Nat → Prop) (k : Nat) (A : Option Addr) (sc : Nat) (own : List UInt8) (w : World) (h : PR w r p c G) (_hby : Byt w (.slice A own.length sc) own) (hr : readyB p = true) (hk : p.f ≤ k) (hk64 : k < 18446744073709551616) (hs : p.sl k = none) (m : Vt) (nd : Int) (hm : p.mu k = some (m, nd)) (hc : c < maxLen) (hG : ∀ j, G j → j < w.heap.size) :
    Calls Try.prog 16 #[.pointer (some ⟨r, 0, none⟩), .int .u64 k, .slice A own.length sc] w fun e w' => ProPost r c G w 0 ⟨k, p.n, p.d, m.v⟩ { p with sl := upd p.sl k (⟨k, p.n, p.d, m.v⟩, 0) } e w' := by
  have hx := h
  obtain ⟨sv, mb, sb, mm, sm, h⟩ := h
  have HX := Lib.hid h
  have HXX := Lib.hid hx
  have hf64 := h.wf.f64
  obtain ⟨w1, hw1⟩ : ∃ w1, w1 = w.alloc (.cells #[.int .u64 0, .int .u64 0, .int .i64 0, .slice none 0 0] 45) := ⟨_, rfl⟩
  have hf1 : Fr (fun _ => False) w w1 := by rw [hw1]; exact (Fr.refl _ w).alloc _
  have hB1 : Blk w1 w.heap.size 45 #[.int .u64 0, .int .u64 0, .int .i64 0, .slice none 0 0] := by rw [hw1]; exact Blk.new _ _ _
  have HW := Lib.hid hw1
  have HR := Lib.hid hr
  clear hw1 hr h hx
  go_enter Try.func16, Try.ntmps16
  go_upto_region 3 with (fail)
  rw [← HW.out]
  clear HW
  go_wp2_with fail
  refine (ready_any r p c G w1 (HXX.out.none_ hf1)).mono ?_
  rintro e w2 ⟨rfl, hf2⟩
  rw [HR.out]
  have hf12 := hf1.tr hf2
  have hB2 := hB1.fr hf2 (fun h => h)
  have c7 : w2.cell? ⟨r, 7, none⟩ = some (.int .u64 p.f) := (HX.out.fr hf12 (fun _ _ _ h => h)).blk.cell 7 rfl
  have hq1 : w.heap.size < w2.heap.size := hB2.lt
  clear hf1 hf2 hB1

  have hkk : ¬ k < p.f := by omega
  have hX2 := HX.out.fr hf12 (fun _ _ _ h => h)
  have c9 : w2.cell? ⟨r, 9, none⟩ = some (.map (some mb)) := hX2.blk.cell 9 rfl
  have c10 : w2.cell? ⟨r, 10, none⟩ = some (.map (some sb)) := hX2.blk.cell 10 rfl
  have hlk := hX2.sls.look key64 Try.underlying31 Try.underlying78 (zero_slot w2) k hk64
  have hlm := hX2.mus.look key64 Try.underlying31 Try.underlying77 (zero_must w2) k hk64
  have hy : sm k = none := by
    rcases hX2.sl k with ⟨_, hy⟩ | ⟨v', X', g, s, hm, hy, hB, hg, ho⟩
    · exact hy
    · rw [hs] at hm; cases hm
  rw [hy] at hlk
  simp only [Option.getD_none, Option.isSome_none] at hlk
  have HS := Lib.hid hs
  clear hy hs

  have hyo : ∃ s, mm k = some (muV m nd s) ∧ OwB w2 G s m.v := by
    rcases hX2.mu k with ⟨hm', hy⟩ | ⟨v', X', s, hm', hy, ho⟩
    · rw [hm] at hm'; cases hm'
    · rw [hm] at hm'
      injection hm' with hm'
      injection hm' with e1 e2
      subst e1 e2
      exact ⟨s, hy, ho⟩
  obtain ⟨s, hym, ho⟩ := hyo
  have hml := (hX2.wf.mu k m nd hm).2.2
  rw [hym] at hlm
  have hbym := ho.byt
  have hby0 := hbym
  obtain ⟨ma, mc, rfl, -, -⟩ := hby0
  simp only [Option.getD_some, Option.isSome_some, muV] at hlm
  have HM := Lib.hid hm
  clear hm hym ho
  obtain ⟨w3, hw3⟩ : ∃ w3, w3 = w2.alloc (.cells #[.int .u64 m.s, .int .u64 m.n, .int .i64 m.d, .slice ma m.v.length mc, .int .i64 nd] 84) := ⟨_, rfl⟩
  have hf3 : Fr (fun _ => False) w2 w3 := by rw [hw3]; exact (Fr.refl _ w2).alloc _
  have hB3 := hB2.fr hf3 (fun h => h)
  have hby3 := hbym.fr hf3 (fun _ _ h => h)
  have hM3 : Blk w3 w2.heap.size 84 #[.int .u64 m.s, .int .u64 m.n, .int .i64 m.d, .slice ma m.v.length mc, .int .i64 nd] := by rw [hw3]; exact Blk.new _ _ _
  have HW3 := Lib.hid hw3
  have HF3 := Lib.hid (hf12.tr hf3)
  have hX3 := hX2.fr hf3 (fun _ _ _ h => h)
  clear hw3 hX2 hf3 hf12 hB2 hk

  have hl' : ¬ (100 : Int) < (m.v.length : Int) := by omega
  go_upto_region 11 with (fail)
  rw [← HW3.out]
  clear HW3 c7 c9 c10 hlk hlm
  have m3 : w3.cell? ⟨w2.heap.size, 3, none⟩ = some (.slice ma m.v.length mc) := hM3.cell 3 rfl
  go_upto_region 13 with (fail)
  clear m3

  have c5 : w3.cell? ⟨r, 5, none⟩ = some (.int .u64 p.n) := hX3.blk.cell 5 rfl
  have c6 : w3.cell? ⟨r, 6, none⟩ = some (.int .i64 p.d) := hX3.blk.cell 6 rfl
  have HX3 := Lib.hid hX3
  have hq3 := hB3.lt
  clear hX3
  go_wp2_with fail
  refine (out_any ⟨k, p.n, p.d, m.v⟩ _ w3 hby3 (by simp only; omega)).mono ?_
  rintro e w4 ⟨g1, cap1, rfl, hg1, hgl1, ho4, hf4⟩
  simp only [vtV] at ho4 ⊢
  obtain ⟨w5, hw5⟩ : ∃ w5, w5 = w4.alloc (.cells #[.int .u64 k, .int .u64 p.n, .int .i64 p.d, .slice (some ⟨g1, 0, none⟩) (m.v).length cap1] 45) := ⟨_, rfl⟩
  have hf5 : Fr (fun _ => False) w4 w5 := by rw [hw5]; exact (Fr.refl _ w4).alloc _
  have hf35 := hf4.tr hf5
  have hB5 := hB3.fr hf35 (fun h => h)
  have hX5 := HX3.out.fr hf35 (fun _ _ _ h => h)
  have hV5 : Blk w5 w4.heap.size 45 #[.int .u64 k, .int .u64 p.n, .int .i64 p.d, .slice (some ⟨g1, 0, none⟩) (m.v).length cap1] := by rw [hw5]; exact Blk.new _ _ _
  have ho5 := own_fr ho4 hf5 (fun _ _ h => h)
  have HW5 := Lib.hid hw5
  clear hw5 c5 c6 ho4 hf5 hB3 hby3
  go_upto_region 16 with (fail)
  rw [← HW5.out]
  clear HW5
  obtain ⟨q, hq⟩ : ∃ q, q = w4.heap.size := ⟨_, rfl⟩
  rw [← hq] at hV5 ⊢
  have HQ := Lib.hid hq
  clear hq
  have c10 : w5.cell? ⟨r, 10, none⟩ = some (.map (some sb)) := hX5.blk.cell 10 rfl
  have v0 : w5.cell? ⟨q, 0, none⟩ = some (.int .u64 k) := hV5.cell 0 rfl
  have v1 : w5.cell? ⟨q, 1, none⟩ = some (.int .u64 p.n) := hV5.cell 1 rfl
  have v2 : w5.cell? ⟨q, 2, none⟩ = some (.int .i64 p.d) := hV5.cell 2 rfl
  have v3 : w5.cell? ⟨q, 3, none⟩ = some (.slice (some ⟨g1, 0, none⟩) (m.v).length cap1) := hV5.cell 3 rfl
  obtain ⟨Z, hZ⟩ : ∃ Z, Z = Obj.cells #[.int .u64 k, .int .u64 p.n, .int .i64 p.d, .slice (some ⟨g1, 0, none⟩) (m.v).length cap1, .int .u32 0] 91 := ⟨_, rfl⟩
  have c10z := al_cell c10 Z
  obtain ⟨w6, hw6⟩ : ∃ w6, w6 = (w5.alloc Z).drew := ⟨_, rfl⟩
  have hf6 : Fr (fun _ => False) w5 w6 := by rw [hw6]; exact ((Fr.refl _ w5).alloc Z).drew
  have hS6 : Blk w6 w5.heap.size 91 (slC ⟨k, p.n, p.d, m.v⟩ 0 (.slice (some ⟨g1, 0, none⟩) (m.v).length cap1)) := by rw [hw6, hZ]; exact Blk.new _ _ _
  have hX6 := (hX5.fr hf6 (fun _ _ _ h => h)).up (G' := fun j => G j ∨ j = g1 ∨ j = w5.heap.size) (fun _ _ h => .inl h)
  have hne6 := hX5.new_ne (g := w5.heap.size) (Nat.le_refl _)
  have hcm : c < maxLen := hc
  obtain ⟨w7, hrun, hm7, hf7, hz7⟩ := hX6.sls.update key64 Try.underlying31 Try.underlying78 hcm k hk64 (.pointer (some ⟨w5.heap.size, 0, none⟩))
  have hP7 := hX6.putSl (v := ⟨k, p.n, p.d, m.v⟩) (s := .slice (some ⟨g1, 0, none⟩) (m.v).length cap1) (k := k) rfl hk64 (by omega) rfl rfl hS6 (.inr (.inr rfl))
    ⟨own_fr ho5 hf6 (fun _ _ h => h), fun j hj => by simp [Value.ownBlock] at hj; exact .inr (.inl hj.symm)⟩ (by simp only; omega) hne6 hm7 hf7
  have hf57 : Fr (fun j => j = sb) w5 w7 := hf6.none_up.tr hf7
  have hB7 := hB5.fr hf57 (fun e => hX5.sls.blk_ne hB5 e)
  have hV7 := hV5.fr hf57 (fun e => hX5.sls.blk_ne hV5 e)
  have hb7 : Byt w7 (.slice (some ⟨g1, 0, none⟩) (m.v).length cap1) (m.v) := Byt.of_own (own_fr ho5 hf57 (fun j hj => hX5.sls.own_ne ho5 j hj))
  have HZZ := Lib.hid (show w5.heap.size < w7.heap.size by have := hS6.lt; omega)
  have hgl5 := own_lt ho5 (k := g1) rfl
  have H7 := Lib.hid (And.intro hP7 (And.intro hf35 (And.intro hf57 hX5.sbG)))
  rw [hw6, hZ] at hrun
  rw [hZ] at c10z
  clear hw6 hZ hf6 hS6 hX6 hne6 hm7 hf7 hz7 hP7 hf57 hB5 hX5 hV5 ho5 hf35 hf4
  go_region
  all_goals
    clear c10 c10z v0 v1 v2 v3 hrun
    have v0 : w7.cell? ⟨q, 0, none⟩ = some (.int .u64 k) := hV7.cell 0 rfl
    have v1 : w7.cell? ⟨q, 1, none⟩ = some (.int .u64 p.n) := hV7.cell 1 rfl
    have v2 : w7.cell? ⟨q, 2, none⟩ = some (.int .i64 p.d) := hV7.cell 2 rfl
    have v3 : w7.cell? ⟨q, 3, none⟩ = some (.slice (some ⟨g1, 0, none⟩) (m.v).length cap1) := hV7.cell 3 rfl
    go_wp2_with fail
    refine (out_any ⟨k, p.n, p.d, m.v⟩ _ w7 hb7 (by simp only; omega)).mono ?_
    rintro e w8 ⟨g2, cap2, rfl, hg2, hgl2, ho8, hf8⟩
    simp only [vtV] at ho8 ⊢
    have hB8 := hB7.fr hf8 (fun h => h)
    clear v0 v1 v2 v3
    have b0 := hB8.cell 0 rfl
    have b1 := hB8.cell 1 rfl
    have b2 := hB8.cell 2 rfl
    have b3 := hB8.cell 3 rfl
    have b4 := hB8.frozen
    have H8 := Lib.hid (And.intro ho8 hf8)
    clear ho8 hf8
    go_wp2_with fail
    have hX : Fr (fun x => x = w.heap.size) w8 ((((w8.setCell ⟨w.heap.size, 0, none⟩ (.int .u64 k)).setCell ⟨w.heap.size, 1, none⟩ (.int .u64 p.n)).setCell ⟨w.heap.size, 2, none⟩ (.int .i64 p.d)).setCell ⟨w.heap.size, 3, none⟩ (.slice (some ⟨g2, 0, none⟩) (m.v).length cap2)) :=
      (((Fr.set1 w8 w.heap.size 0 _).setCell (p := ⟨w.heap.size, 1, none⟩) (fun _ => rfl) _).setCell (p := ⟨w.heap.size, 2, none⟩) (fun _ => rfl) _).setCell (p := ⟨w.heap.size, 3, none⟩) (fun _ => rfl) _
    have hW := (((hB8.set_ 0 (.int .u64 k)).set_ 1 (.int .u64 p.n)).set_ 2 (.int .i64 p.d)).set_ 3 (.slice (some ⟨g2, 0, none⟩) (m.v).length cap2)
    obtain ⟨ho8, hf8⟩ := H8.out
    obtain ⟨hP7, hf35, hf57, hsb⟩ := H7.out
    have z3 := HF3.out.size
    have z5 := hf35.size
    have z7 := hf57.size
    have z8 := hf8.size
    have hzz := HZZ.out
    refine bodyPost_ret (results_row_tmp rfl _ _ w.heap.size 45 #[.int .u64 k, .int .u64 p.n, .int .i64 p.d, .slice (some ⟨g2, 0, none⟩) (m.v).length cap2] (0, 0) _ rfl ?_ Try.underlying45 rfl (by kernel_rfl)) rfl ?_
    · show Blk _ w.heap.size 45 _
      simpa using hW
    · have hF3 : Fr G w w7 := (HF3.out.tr hf35).none_up.trans hf57 (fun x hx h => by rcases h with h | h; exact h; subst h; exact hsb)
      have hFE : Fr G w _ := (hF3.tr hf8.none_up).trans hX (fun x hx h => by rcases h with h | h; exact h; omega)
      have hXw := hX.size
      refine ⟨some ⟨g2, 0, none⟩, cap2, (fun j => G j ∨ j = g1 ∨ j = w5.heap.size), rfl, own_up (own_fr ho8 hX (fun j hj => by simp [Value.ownBlock] at hj; omega)) (fun j hj => by simp [Value.ownBlock] at hj; omega),
        ⟨_, _, _, _, _, (hP7.fr hf8 (fun _ _ _ h => h)).fr hX (fun j hj h e => ?_)⟩, fun j hj => ?_, fun j hj hj2 => ?_, hFE⟩
      · have e' : j = w.heap.size := e
        rcases h with h | h | h
        · have := hG j h; omega
        · omega
        · omega
      · rcases hj with h | h | h
        · exact .inl h
        · exact .inr ⟨by omega, by omega⟩
        · exact .inr ⟨by omega, by omega⟩
      · simp [Value.ownBlock] at hj
        rcases hj2 with h | h | h
        · have := hG j h; omega
        · omega
        · omega
end Go.Proofs.Ytliljjlegofmkaa
