/- The document's group, whole, some. -/
import Derived.Test.YtliljjlegofmkaaQR
import Derived.Deep.QuietTactic
namespace Go.Proofs.Ytliljjlegofmkaa
open Go.RowKit

theorem quiet_left {P : Program} {f : FuncId} {args : Array Value} {w : World} {n : Nat} {v : Value}
    (h : Calls P f args (w.drewN n) fun e w' => e = .returned v ∧ w.drewN n = w') : Calls P f args (w.drewN n) fun e w'' => e = .returned v ∧ ∃ m, w'' = w.drewN m :=
  h.mono fun _ _ ⟨he, hm⟩ => ⟨he, n, hm.symm⟩
set_option maxHeartbeats 2000000 in
theorem rgroup_two (N O T i : Nat) (l : List Int) (sec : Bool) (s : Value) (w : World) (hs : Ints w s l) (hT : 1 ≤ T) (hT2 : T ≤ 12) (hi : i < 12) :
    Calls Try.prog 61 #[.agg #[.int .i64 2, .int .i64 N, .int .i64 O, .int .i64 T, s], .bool sec, .int .i64 i] w fun e w' => e = .returned (.int .i64 ((if sec then i % T else i / T : Nat) : Int)) ∧ Fr (fun _ => False) w w' := by
  obtain ⟨A, c, rfl, -⟩ := hs
  have hf := (Fr.refl (fun _ => False) w).alloc (.cells #[.int .i64 2, .int .i64 N, .int .i64 O, .int .i64 T, .slice A l.length c] 24)
  have HF := Lib.hid hf
  have hT' : (1 : Int) ≤ (T : Int) := by omega
  have hd1 : 0 ≤ (i : Int) / (T : Int) := Int.ediv_nonneg (by omega) (by omega)
  have hd2 : (i : Int) / (T : Int) ≤ 12 := Int.le_trans (Int.ediv_le_self _ (by omega)) (by omega)
  clear hf
  cases sec with
  | true =>
    go_enter Try.func61, Try.ntmps61
    go_wp2_with fail
    go_ret
    exact ⟨rfl, HF.out⟩
  | false =>
    go_enter Try.func61, Try.ntmps61
    go_wp2_with fail
    go_ret
    exact ⟨rfl, HF.out⟩
set_option maxHeartbeats 2000000 in
theorem rgroup_three (n o t : Int) (i : Nat) (z : Int) (l : List Int) (sec : Bool) (s : Value) (w : World) (hs : Ints w s l) (hl : l.length ≤ 1000) (hz : l[i]? = some z) :
    Calls Try.prog 61 #[.agg #[.int .i64 3, .int .i64 n, .int .i64 o, .int .i64 t, s], .bool sec, .int .i64 i] w fun e w' => e = .returned (.int .i64 z) ∧ Fr (fun _ => False) w w' := by
  have hi := (List.getElem?_eq_some_iff.1 hz).1
  obtain ⟨A, c, rfl, h2⟩ := hs
  obtain ⟨b, off, rfl, h3⟩ := h2 (by rintro rfl; simp at hi)
  obtain ⟨w1, hw1⟩ : ∃ w1, w1 = w.alloc (.cells #[.int .i64 3, .int .i64 n, .int .i64 o, .int .i64 t, .slice (some ⟨b, off, none⟩) l.length c] 24) := ⟨_, rfl⟩
  have hf : Fr (fun _ => False) w w1 := by rw [hw1]; exact (Fr.refl _ w).alloc _
  have hb : Blk w1 w.heap.size 24 #[.int .i64 3, .int .i64 n, .int .i64 o, .int .i64 t, .slice (some ⟨b, off, none⟩) l.length c] := by rw [hw1]; exact Blk.new _ _ _
  have g0 := hf.cell (h3 i z hz) (fun h => h)
  have HF := Lib.hid hf
  have HW := Lib.hid hw1
  have b0 := hb.cell 0 rfl
  have b4 := hb.cell 4 rfl
  clear hf hw1 hb hz h2 h3
  go_enter Try.func61, Try.ntmps61
  go_upto_region 1 with (fail)
  rw [← HW.out]
  clear HW
  go_wp2_with fail
  go_ret
  exact ⟨rfl, HF.out⟩

set_option maxRecDepth 100000 in
set_option maxHeartbeats 4000000 in
theorem rsome_any (k n o t : Int) (l : List Int) (s : Value) (X i : Nat) (hX : X < 4294967296) (hN : l.length ≤ 12) (hn : n = (l.length : Int)) (hi : i < l.length) (w : World) (hs : Ints w s l) :
    Calls Try.prog 40 #[.agg #[.int .i64 k, .int .i64 n, .int .i64 o, .int .i64 t, s], .int .u32 (X : Int), .int .i64 (i : Int)] w fun e w' => e = .returned (.bool (anyN l.length fun j => decide (l[j]? = l[i]?) && X.testBit j)) ∧ Fr (fun _ => False) w w' := by
  subst hn
  obtain ⟨A, c, rfl, h2⟩ := hs
  obtain ⟨b, off, rfl, h3⟩ := h2 (by rintro rfl; simp at hi)
  obtain ⟨w1, hw1⟩ : ∃ w1, w1 = w.alloc (.cells #[.int .i64 k, .int .i64 (l.length : Int), .int .i64 o, .int .i64 t, .slice (some ⟨b, off, none⟩) l.length c] 24) := ⟨_, rfl⟩
  obtain ⟨q0, hq0⟩ : ∃ q0, q0 = w.heap.size := ⟨_, rfl⟩
  have hf : Fr (fun _ => False) w w1 := by rw [hw1]; exact (Fr.refl _ w).alloc _
  have hb : Blk w1 q0 24 #[.int .i64 k, .int .i64 (l.length : Int), .int .i64 o, .int .i64 t, .slice (some ⟨b, off, none⟩) l.length c] := by rw [hw1, hq0]; exact Blk.new _ _ _
  have hcell : ∀ j z, l[j]? = some z → w1.cell? ⟨b, off + j, none⟩ = some (.int .i64 z) := fun j z hz => hf.cell (h3 j z hz) (fun h => h)
  have HC := Lib.hid hcell
  have HF := Lib.hid hf
  have HW := Lib.hid hw1
  have HQ := Lib.hid hq0
  obtain ⟨zi, hzi⟩ : ∃ z, l[i]? = some z := ⟨_, List.getElem?_eq_getElem hi⟩
  have HZi := Lib.hid hzi
  have b1 := hb.cell 1 rfl
  clear hf hw1 hq0 hcell h2 h3 hzi
  go_enter Try.func40, Try.ntmps40
  go_upto_region 1 with (fail)
  rw [← HW.out, ← HQ.out]
  clear HW HQ
  go_wp2_with fail
  go_loopg [7] l.length (fun g x7 wr => ∃ (j : Nat), j + g = l.length ∧ x7 = .int .i64 j ∧ anyN j (fun j => decide (l[j]? = l[i]?) && X.testBit j) = false ∧ Fr (fun _ => False) w1 wr)
  case atStart => exact ⟨0, by omega, rfl, rfl, Fr.refl _ _⟩
  case round =>
    obtain ⟨j, hj, rfl, hno, hfr⟩ := hrel
    have HJ := Lib.hid (And.intro hj hno)
    have hj' : j ≤ l.length := by omega
    clear hj hno b1
    have hbr := hb.fr hfr (fun h => h)
    have b1 := hbr.cell 1 rfl
    have b4 := hbr.cell 4 rfl
    by_cases hlt : j < l.length
    · obtain ⟨z, hz⟩ : ∃ z, l[j]? = some z := ⟨_, List.getElem?_eq_getElem hlt⟩
      have g0 := hfr.cell (HC.out j z hz) (fun h => h)
      have g1 := hfr.cell (HC.out i zi HZi.out) (fun h => h)
      have hde : decide (l[j]? = l[i]?) = (z == zi) := by
        rw [hz, HZi.out, Bool.eq_iff_iff]; simp
      have HD := Lib.hid hde
      clear hde hz
      cases hg : (z == zi) with
      | false =>
        have HGE := Lib.hid hg
        have hg2 : decide (z = zi) = false := by simpa using hg
        go_upto_region 4 with (fail)
        go_quiet (fail)
        clear g0 g1 hg hg2
        go_wp2_with fail
        go_roundg (l.length - (j + 1))
        case measure => have := HJ.out; omega
        case rel => exact ⟨j + 1, by have := HJ.out; omega, by go_num, by simp only [anyN]; rw [HJ.out.2, HD.out, HGE.out]; rfl, hfr.drewN _⟩
      | true =>
        have HGE := Lib.hid hg
        have hzz : z = zi := by simpa using hg
        subst hzz
        cases ht : X.testBit j with
        | true =>
          have HT := Lib.hid ht
          clear hg
          go_upto_region 4 with (fail)
          go_quiet ((go_at_call 13; exact quiet_left (has_any X j hX (by omega) _)))
          clear g0 g1 ht
          go_wp2_with fail
          go_ret
          refine ⟨?_, HF.out.tr (hfr.drewN _)⟩
          have : (anyN l.length fun j => decide (l[j]? = l[i]?) && X.testBit j) = true := anyN_iff.2 ⟨j, hlt, by rw [HD.out, HGE.out, HT.out]; rfl⟩
          rw [this]
          rfl
        | false =>
          have HT := Lib.hid ht
          clear hg
          go_upto_region 4 with (fail)
          go_quiet ((go_at_call 13; exact quiet_left (has_any X j hX (by omega) _)))
          clear g0 g1 ht
          go_wp2_with fail
          go_roundg (l.length - (j + 1))
          case measure => have := HJ.out; omega
          case rel => exact ⟨j + 1, by have := HJ.out; omega, by go_num, by simp only [anyN]; rw [HJ.out.2, HD.out, HT.out]; simp, hfr.drewN _⟩
    · obtain rfl : j = l.length := by omega
      go_wp2_with fail
      go_ret
      refine ⟨?_, HF.out.tr hfr⟩
      rw [HJ.out.2]
      rfl
end Go.Proofs.Ytliljjlegofmkaa
