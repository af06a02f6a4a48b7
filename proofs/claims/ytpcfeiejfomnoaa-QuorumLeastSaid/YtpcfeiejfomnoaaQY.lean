/- The document's Least. -/
import Derived.Test.YtpcfeiejfomnoaaQV
import Derived.Deep.AppendLies
namespace Go.Proofs.Ytpcfeiejfomnoaa
open Go.RowKit

set_option maxRecDepth 100000 in
set_option maxHeartbeats 4000000 in
theorem rleasts_any (q : Qu) (sec : Bool) (s : Value) (w : World) (hs : Ints w s q.s) (hl : q.s.length ≤ 1000) :
    Calls Try.prog 12 #[q.v s, .bool sec] w (ListPost w (leastQ q sec)) := by
  obtain ⟨i0, hi0, hz0, hz1, hz2⟩ := info_parts8 u32info
  have HC := Lib.hid (rright_any q s)
  by_cases h : rightE q = 0
  · have ho := ok_of h
    obtain ⟨n1, n12, hn⟩ := ho.n
    have HI := Lib.hid fun (Y : Nat) (hY : Y < 4294967296) => ris_any q sec s Y hY
    have hLQ : leastQ q sec = leastL q sec (2 ^ q.n.toNat) := by unfold leastQ; rw [if_pos h]
    rw [hLQ]
    obtain ⟨k, n, o, t, l⟩ := q
    simp only at hn n1 n12 hl HI ⊢
    obtain ⟨N, hNe⟩ : ∃ N, N = n.toNat := ⟨_, rfl⟩
    rw [← hNe] at hn n1 n12 ⊢
    subst hn
    clear hNe hLQ ho
    have hs0 := hs
    obtain ⟨A, c, rfl, -⟩ := hs0
    obtain ⟨w1, hw1⟩ : ∃ w1, w1 = w.alloc (.cells #[.int .i64 k, .int .i64 N, .int .i64 o, .int .i64 t, .slice A l.length c] 24) := ⟨_, rfl⟩
    obtain ⟨q0, hq0⟩ : ∃ q0, q0 = w.heap.size := ⟨_, rfl⟩
    have hf : Fr (fun _ => False) w w1 := by rw [hw1]; exact (Fr.refl _ w).alloc _
    have hb : Blk w1 q0 24 #[.int .i64 k, .int .i64 N, .int .i64 o, .int .i64 t, .slice A l.length c] := by rw [hw1, hq0]; exact Blk.new _ _ _
    have hs1 := hs.up hf
    have HF := Lib.hid hf
    have HW := Lib.hid hw1
    have HQ := Lib.hid hq0
    have HE := Lib.hid h
    have b0 := hb.cell 0 rfl
    have b1 := hb.cell 1 rfl
    have b2 := hb.cell 2 rfl
    have b3 := hb.cell 3 rfl
    have b4 := hb.cell 4 rfl
    obtain ⟨K, hK⟩ : ∃ K : Nat, K = 2 ^ N := ⟨_, rfl⟩
    have hp2 := pow_int n12
    rw [← hK] at hp2 ⊢
    have hK2 : K ≤ 4096 := by rw [hK]; exact (Nat.pow_le_pow_right (by omega) n12 : (2 : Nat) ^ N ≤ 2 ^ 12)
    simp only [Qu.v] at HC HI ⊢
    clear hf hs hw1 hq0 h hK
    go_enter Try.func12, Try.ntmps12
    go_upto_region 1 with (fail)
    rw [← HW.out, ← HQ.out]
    clear HW HQ
    go_wp2_with fail
    refine (HC.out w1 hs1 hl).mono ?_
    rintro e w2 ⟨rfl, hf2⟩
    rw [HE.out]
    have hb2 := hb.fr hf2 (fun h => h)
    have hff := HF.out.tr hf2
    have hs2 := hs1.up hf2
    clear b0 b1 b2 b3 b4 hf2 hb HF HC hs1
    have b1 := hb2.cell 1 rfl
    go_wp2_with fail
    go_loopg [5, 7] K (fun g x5 x13 wr => ∃ (m : Nat) (va : Option Addr) (vc : Nat) (L : List Nat), m + g = K ∧ x5 = .slice va L.length vc ∧ x13 = .int .u32 (m : Int) ∧ L = leastL ⟨k, N, o, t, l⟩ sec m ∧ wr.ownsRow w2.heap.size 29 1 (.slice va L.length vc) L.length (u32s L) ∧ Fr (fun _ => False) w2 wr)
    case atStart => exact ⟨0, none, 0, [], by omega, rfl, rfl, rfl, World.ownsRow_nil _ _ _ _, Fr.refl _ _⟩
    case round =>
      clear b1
      obtain ⟨m, va, vc, L, hm, rfl, rfl, hL, hrow, hfr⟩ := hrel
      have HJ := Lib.hid (And.intro hm hL)
      have hm' : m ≤ K := by omega
      have hLl : L.length ≤ m := by rw [hL]; exact leastL_len _ _ _
      have hnx := leastL_next ⟨k, N, o, t, l⟩ sec m
      clear hm hL
      have hbr := hb2.fr hfr (fun h => h)
      have hsr := hs2.up hfr
      have b0 := hbr.cell 0 rfl
      have b1 := hbr.cell 1 rfl
      have b2 := hbr.cell 2 rfl
      have b3 := hbr.cell 3 rfl
      have b4 := hbr.cell 4 rfl
      by_cases hlt : m < K
      · have HN := Lib.hid hnx
        clear hnx
        go_wp2_with fail
        refine (HI.out m (by omega) wr hsr hl).mono ?_
        rintro e w4 ⟨rfl, hf4⟩
        have hfr4 := hfr.tr hf4
        have hrow4 := own_fr hrow hf4 (fun _ _ h => h)
        have hbr4 := hbr.fr hf4 (fun h => h)
        have hsr4 := hsr.up hf4
        clear b0 b1 b2 b3 b4 hf4 hfr hrow hbr hsr
        obtain ⟨V0, hV0⟩ : ∃ V, V = isQ ⟨k, N, o, t, l⟩ sec m.testBit := ⟨_, rfl⟩
        rw [← hV0]
        have HV0 := Lib.hid hV0
        have HX := Lib.hid (And.intro hfr4 hrow4)
        clear hV0 hfr4 hrow4
        go_wp2_with fail
        go_loopg [8, 9] N (fun g x8 x9 wx => ∃ (i : Nat) (V : Bool), i + g = N ∧ x8 = .bool V ∧ x9 = .int .i64 i ∧ V = (V0 && allN i fun i => !(m.testBit i && isQ ⟨k, N, o, t, l⟩ sec (less m.testBit i))) ∧ Fr (fun _ => False) w2 wx ∧ wx.ownsRow w2.heap.size 29 1 (.slice va L.length vc) L.length (u32s L))
        case atStart => exact ⟨0, V0, by omega, rfl, rfl, by simp [allN], HX.out.1, HX.out.2⟩
        case round =>
          clear HX hbr4 hsr4
          obtain ⟨i, V, hi, rfl, rfl, hV, hfr, hrow⟩ := hrel
          have HI2 := Lib.hid (And.intro hi hV)
          have hi' : i ≤ N := by omega
          clear hi hV
          have hbr := hb2.fr hfr (fun h => h)
          have hsr := hs2.up hfr
          have b0 := hbr.cell 0 rfl
          have b1 := hbr.cell 1 rfl
          have b2 := hbr.cell 2 rfl
          have b3 := hbr.cell 3 rfl
          have b4 := hbr.cell 4 rfl
          by_cases hgo : i < N ∧ V = true
          · obtain ⟨hiN, rfl⟩ := hgo
            cases ht : m.testBit i with
            | false =>
              have HT := Lib.hid ht
              have HX := Lib.hid (And.intro hfr hrow)
              clear hfr hrow
              go_wp2_with fail
              refine (has_any m i (by omega) (by omega) _).mono ?_
              rintro e w5 ⟨rfl, rfl⟩
              go_wp2_with fail
              go_roundg (N - (i + 1))
              case measure => have := HI2.out; omega
              case rel => exact ⟨i + 1, true, by have := HI2.out; omega, rfl, by go_num, by simp only [allN]; rw [HT.out, Bool.false_and, Bool.not_false, Bool.and_true]; exact HI2.out.2, HX.out.1, HX.out.2⟩
            | true =>
              have HT := Lib.hid ht
              have hle := bit_le ht
              have hp3 := pow_int (j := i) (by omega)
              obtain ⟨p2, hp2'⟩ : ∃ p : Nat, p = 2 ^ i := ⟨_, rfl⟩
              have hsb := sub_bit m i (by omega) ht
              rw [← hp2'] at hle hp3 hsb
              obtain ⟨D, hD⟩ : ∃ D, D = m - p2 := ⟨_, rfl⟩
              rw [← hD] at hsb
              have hsub : (m : Int) - (p2 : Int) = (D : Int) := by omega
              have hDl : D < 4294967296 := by omega
              have hcg : isQ ⟨k, N, o, t, l⟩ sec D.testBit = isQ ⟨k, N, o, t, l⟩ sec (less m.testBit i) := isQ_congr fun j _ => hsb j
              have HG := Lib.hid hcg
              clear hcg hsb hD hp2'
              go_wp2_with fail
              refine (has_any m i (by omega) (by omega) _).mono ?_
              rintro e w5 ⟨rfl, rfl⟩
              go_wp2_with fail
              refine (HI.out D hDl _ hsr hl).mono ?_
              rintro e w6 ⟨rfl, hf6⟩
              rw [HG.out]
              have hfr6 := hfr.tr hf6
              have hrow6 := own_fr hrow hf6 (fun _ _ h => h)
              have HX := Lib.hid (And.intro hfr6 hrow6)
              clear b0 b1 b2 b3 b4 hf6 hfr hrow hfr6 hrow6 ht
              go_wp2_with fail
              go_roundg (N - (i + 1))
              case measure => have := HI2.out; omega
              case rel => exact ⟨i + 1, _, by have := HI2.out; omega, rfl, by go_num, by simp only [allN]; rw [HT.out, Bool.true_and, ← Bool.and_assoc, ← HI2.out.2, Bool.true_and], HX.out.1, HX.out.2⟩
          · have hfin : V = isLeast ⟨k, N, o, t, l⟩ sec m := by
              have h1 := HI2.out.2
              unfold isLeast leastB
              rw [← HV0.out]
              simp only [Int.toNat_natCast]
              by_cases hiN : i = N
              · subst hiN; exact h1
              · have hV : V = false := by
                  cases V with
                  | false => rfl
                  | true => exact absurd ⟨by omega, rfl⟩ hgo
                rw [hV] at h1 ⊢
                symm
                rw [Bool.eq_false_iff]
                intro h2
                rw [Bool.and_eq_true] at h2
                have h3 : (V0 && allN i fun i => !(m.testBit i && isQ ⟨k, N, o, t, l⟩ sec (less m.testBit i))) = true := by
                  rw [Bool.and_eq_true]
                  exact ⟨h2.1, allN_iff.2 fun j hj => allN_iff.1 h2.2 j (by omega)⟩
                rw [h3] at h1
                cases h1
            have HFin := Lib.hid hfin
            have hcase : (i < N ∧ V = false) ∨ (i = N ∧ V = false) ∨ (i = N ∧ V = true) := by
              cases V with
              | false => by_cases h : i = N; exact .inr (.inl ⟨h, rfl⟩); exact .inl ⟨by omega, rfl⟩
              | true => exact .inr (.inr ⟨Classical.byContradiction fun h => hgo ⟨by omega, rfl⟩, rfl⟩)
            clear hfin hgo
            rcases hcase with ⟨h1, rfl⟩ | ⟨h1, rfl⟩ | ⟨h1, rfl⟩
            · have HX := Lib.hid (And.intro hfr hrow)
              clear hfr hrow
              go_wp2_with fail
              go_roundg (K - (m + 1))
              case measure => have := HJ.out; omega
              case rel => exact ⟨m + 1, va, vc, L, by have := HJ.out; omega, rfl, by go_num, by rw [HN.out, ← HFin.out, HJ.out.2]; simp, HX.out.2, HX.out.1⟩
            · subst h1
              have HX := Lib.hid (And.intro hfr hrow)
              clear hfr hrow
              go_wp2_with fail
              go_roundg (K - (m + 1))
              case measure => have := HJ.out; omega
              case rel => exact ⟨m + 1, va, vc, L, by have := HJ.out; omega, rfl, by go_num, by rw [HN.out, ← HFin.out, HJ.out.2]; simp, HX.out.2, HX.out.1⟩
            · subst h1
              obtain ⟨w5, hw5⟩ : ∃ w5, w5 = wr := ⟨_, rfl⟩
              rw [← hw5] at hfr hrow b0 b1 b2 b3 b4 ⊢
              obtain ⟨w6, hw6⟩ : ∃ w6, w6 = w5.alloc (.cells #[.int .u32 (m : Int)] 29) := ⟨_, rfl⟩
              have hf6 : Fr (fun _ => False) w5 w6 := by rw [hw6]; exact (Fr.refl _ w5).alloc _
              have hn6 : ∀ j u, [Value.int .u32 (m : Int)][j]? = some u → w6.cell? (Addr.add ⟨w5.heap.size, 0, none⟩ j) = some u := by
                rw [hw6]; exact World.news_of_block (cs := #[.int .u32 (m : Int)]) (t := 29) (fr := (0, 0)) (heap_alloc_new w5 _)
              have hrow6 := own_fr hrow hf6 (fun _ _ h => h)
              have hfr6 := hfr.tr hf6
              have hz6 : w2.heap.size ≤ w6.heap.size := hfr6.size
              have HW6 := Lib.hid hw6
              have HX := Lib.hid hfr6
              clear hw5 hw6 hf6 hfr hrow hfr6 hbr hsr
              go_wp2_with (first
                | (at_builtin
                   rw [← HW6.out]
                   clear HW6
                   refine wpList_bi2 rfl .append _ _ _ _ _ rfl rfl rfl _ (ap_cells (base := w2.heap.size) Try.underlying27 hi0 hz0 hz1 hz2 rfl (by omega) hrow6 ⟨w5.heap.size, 0, none⟩ 1 1 [.int .u32 (m : Int)] rfl hn6 (by simp [Value.oneCell']) (by unfold maxLen; omega) (by omega) hz6) ?_
                   rintro v' w7 hap
                   obtain ⟨na, nc, rfl⟩ := own_sl hap.1))
              go_roundg (K - (m + 1))
              case measure => have := HJ.out; omega
              case rel =>
                refine ⟨m + 1, na, nc, L ++ [m], by have := HJ.out; omega, by simp, by go_num, by rw [HN.out, ← HFin.out, HJ.out.2]; simp, ?_, hap.fr HX.out (fun k' hk' hlt' => by have := (hrow6.lt k' hk').1; omega)⟩
                rw [List.length_append, List.length_singleton]
                have e : u32s (L ++ [m]) = u32s L ++ [.int .u32 (m : Int)] := by simp [u32s]
                rw [e]
                exact hap.1
      · obtain rfl : m = K := by omega
        have HX := Lib.hid (And.intro hfr hrow)
        clear hfr hrow hnx
        go_wp2_with fail
        go_ret
        refine ⟨_, rfl, ?_, hff.tr HX.out.1⟩
        rw [← HJ.out.2]
        exact own_up (own_base HX.out.2) (fun k' hk' => by have := (HX.out.2.lt k' hk').1; have := hff.size; omega)
  · have hLQ : leastQ q sec = [] := by unfold leastQ; rw [if_neg h]
    rw [hLQ]
    obtain ⟨k, n, o, t, l⟩ := q
    have hs0 := hs
    obtain ⟨A, c, rfl, -⟩ := hs0
    have hf := (Fr.refl (fun _ => False) w).alloc (.cells #[.int .i64 k, .int .i64 n, .int .i64 o, .int .i64 t, .slice A l.length c] 24)
    have HF := Lib.hid (And.intro hf (hs.up hf))
    simp only [Qu.v] at hl HC ⊢
    have h' : (rightE ⟨k, n, o, t, l⟩ == 0) = false := by simp [h]
    have h2 : (rightE ⟨k, n, o, t, l⟩ != 0) = true := by unfold bne; rw [h']; rfl
    clear hf hs h hLQ
    go_enter Try.func12, Try.ntmps12
    go_wp2_with fail
    refine (HC.out _ HF.out.2 hl).mono ?_
    rintro e w2 ⟨rfl, hf2⟩
    go_wp2_with fail
    go_ret
    exact ⟨_, rfl, World.ownsRow_nil _ _ _ _, HF.out.1.tr hf2⟩
end Go.Proofs.Ytpcfeiejfomnoaa
