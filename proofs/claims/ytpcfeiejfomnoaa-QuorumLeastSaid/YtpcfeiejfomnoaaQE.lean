/- Least, Reach. -/
import Derived.Test.YtpcfeiejfomnoaaQD
import Derived.Deep.AppendLies
namespace Go.Proofs.Ytpcfeiejfomnoaa
open Go.RowKit

theorem u32info : (Try.prog.info? 29).map (fun i => (i.zero, i.size, i.bytes)) = some (some (.int .u32 0), 1, 4) := by kernel_rfl
theorem info_parts8 {t : TypeId} {z : Value} {s b : Nat} (h : (Try.prog.info? t).map (fun i => (i.zero, i.size, i.bytes)) = some (some z, s, b)) : ∃ i, Try.prog.info? t = some i ∧ i.zero = some z ∧ i.size = s ∧ i.bytes = b := by
  cases hi : Try.prog.info? t with
  | none => rw [hi] at h; cases h
  | some i =>
    rw [hi] at h
    simp only [Option.map_some, Option.some.injEq, Prod.mk.injEq] at h
    exact ⟨i, rfl, h.1, h.2.1, h.2.2⟩
def u32s (l : List Nat) : List Value := l.map fun (x : Nat) => .int .u32 (x : Int)
theorem u32s_len (l : List Nat) : (u32s l).length = l.length := by simp [u32s]
theorem own_sl {w : World} {base e size n : Nat} {v : Value} {xs : List Value} (h : w.ownsRow base e size v n xs) : ∃ va vc, v = .slice va n vc := by
  rcases own_form h with ⟨h1, h2, _⟩ | ⟨g, cap, cur, h1, _⟩
  · exact ⟨none, 0, by rw [h1, h2]⟩
  · exact ⟨some ⟨g, 0, none⟩, cap, h1⟩
/-- A quorum of which no node may be left out. -/
def isLeast (q : Qu) (sec : Bool) (x : Nat) : Bool := isQ q sec x.testBit && leastB q sec x.testBit
def leastL (q : Qu) (sec : Bool) (m : Nat) : List Nat := (List.range m).filter (isLeast q sec)
def leastQ (q : Qu) (sec : Bool) : List Nat := if rightE q = 0 then leastL q sec (2 ^ q.n.toNat) else []
theorem leastL_next (q : Qu) (sec : Bool) (m : Nat) : leastL q sec (m + 1) = leastL q sec m ++ if isLeast q sec m then [m] else [] := by
  unfold leastL
  rw [List.range_succ, List.filter_append]
  cases h : isLeast q sec m <;> simp [h]
theorem leastL_len (q : Qu) (sec : Bool) (m : Nat) : (leastL q sec m).length ≤ m := by
  unfold leastL
  have := List.length_filter_le (isLeast q sec) (List.range m)
  simpa using this
/-- What a call that gives a list of sets leaves. -/
def ListPost (w : World) (L : List Nat) (e : Ending) (w' : World) : Prop := ∃ v, e = .returned v ∧ w'.ownsRow w.heap.size 29 1 v L.length (u32s L) ∧ Fr (fun _ => False) w w'

set_option maxRecDepth 100000 in
set_option maxHeartbeats 4000000 in
theorem leasts_any (q : Qu) (sec : Bool) (s : Value) (w : World) (hs : Ints w s q.s) (hl : q.s.length ≤ 1000) :
    Calls Try.prog 11 #[q.v s, .bool sec] w (ListPost w (leastQ q sec)) := by
  obtain ⟨i0, hi0, hz0, hz1, hz2⟩ := info_parts8 u32info
  have HC := Lib.hid (right_any q s)
  by_cases h : rightE q = 0
  · have ho := ok_of h
    obtain ⟨n1, n12, hn⟩ := ho.n
    have HI := Lib.hid fun (Y : Nat) (hY : Y < 4294967296) => is_any q sec s Y hY
    have HL := Lib.hid fun (Y : Nat) (hY : Y < 4294967296) (w : World) (hs : Ints w s q.s) => least_any q sec s Y hY w hs hl (by omega) (by omega)
    have hLQ : leastQ q sec = leastL q sec (2 ^ q.n.toNat) := by unfold leastQ; rw [if_pos h]
    rw [hLQ]
    obtain ⟨k, n, o, t, l⟩ := q
    simp only at hn n1 n12 hl HI HL ⊢
    obtain ⟨N, hNe⟩ : ∃ N, N = n.toNat := ⟨_, rfl⟩
    rw [← hNe] at hn n1 n12 ⊢
    subst hn
    clear hNe hLQ ho
    have hs0 := hs
    obtain ⟨A, c, rfl, -⟩ := hs0
    obtain ⟨w1, hw1⟩ : ∃ w1, w1 = w.alloc (.cells #[.int .i64 k, .int .i64 N, .int .i64 o, .int .i64 t, .slice A l.length c] 24) := ⟨_, rfl⟩
    obtain ⟨q0, hq0⟩ : ∃ q0, q0 = w.heap.size := ⟨_, rfl⟩
    have hf : Fr (fun _ => False) w w1 := by rw [hw1]; exact (Fr.refl _ w).alloc _
    have hb : Blk w1 q0 24 #[.int .i64 k, .int .i64 N, .int .i64 o, .int .i64 t, .slice A l.length c] := by rw [hw1, hq0]; exact Blk.new _ _ _
    have hs1 := hs.up hf
    have HF := Lib.hid hf
    have HW := Lib.hid hw1
    have HQ := Lib.hid hq0
    have HE := Lib.hid h
    have b0 := hb.cell 0 rfl
    have b1 := hb.cell 1 rfl
    have b2 := hb.cell 2 rfl
    have b3 := hb.cell 3 rfl
    have b4 := hb.cell 4 rfl
    obtain ⟨K, hK⟩ : ∃ K : Nat, K = 2 ^ N := ⟨_, rfl⟩
    have hp2 := pow_int n12
    rw [← hK] at hp2 ⊢
    have hK2 : K ≤ 4096 := by rw [hK]; exact (Nat.pow_le_pow_right (by omega) n12 : (2 : Nat) ^ N ≤ 2 ^ 12)
    simp only [Qu.v] at HC HI HL ⊢
    clear hf hs hw1 hq0 h hK
    go_enter Try.func11, Try.ntmps11
    go_upto_region 1 with (fail)
    rw [← HW.out, ← HQ.out]
    clear HW HQ
    go_wp2_with fail
    refine (HC.out w1 hs1 hl).mono ?_
    rintro e w2 ⟨rfl, hf2⟩
    rw [HE.out]
    have hb2 := hb.fr hf2 (fun h => h)
    have hff := HF.out.tr hf2
    have hs2 := hs1.up hf2
    clear b0 b1 b2 b3 b4 hf2 hb HF HC hs1
    have b1 := hb2.cell 1 rfl
    go_wp2_with fail
    try rw [hp2]
    go_loopg [5, 13] K (fun g x5 x13 wr => ∃ (m : Nat) (va : Option Addr) (vc : Nat) (L : List Nat), m + g = K ∧ x5 = .slice va L.length vc ∧ x13 = .int .u32 (m : Int) ∧ L = leastL ⟨k, N, o, t, l⟩ sec m ∧ wr.ownsRow w2.heap.size 29 1 (.slice va L.length vc) L.length (u32s L) ∧ Fr (fun _ => False) w2 wr)
    case atStart => exact ⟨0, none, 0, [], by omega, rfl, rfl, rfl, World.ownsRow_nil _ _ _ _, Fr.refl _ _⟩
    case round =>
      clear b1
      obtain ⟨m, va, vc, L, hm, rfl, rfl, hL, hrow, hfr⟩ := hrel
      have HJ := Lib.hid (And.intro hm hL)
      have hm' : m ≤ K := by omega
      have hLl : L.length ≤ m := by rw [hL]; exact leastL_len _ _ _
      have hnx := leastL_next ⟨k, N, o, t, l⟩ sec m
      clear hm hL
      have hbr := hb2.fr hfr (fun h => h)
      have hsr := hs2.up hfr
      have b0 := hbr.cell 0 rfl
      have b1 := hbr.cell 1 rfl
      have b2 := hbr.cell 2 rfl
      have b3 := hbr.cell 3 rfl
      have b4 := hbr.cell 4 rfl
      by_cases hlt : m < K
      · have HN := Lib.hid hnx
        clear hnx
        go_wp2_with fail
        refine (HI.out m (by omega) wr hsr hl).mono ?_
        rintro e w4 ⟨rfl, hf4⟩
        have hfr4 := hfr.tr hf4
        have hrow4 := own_fr hrow hf4 (fun _ _ h => h)
        have hbr4 := hbr.fr hf4 (fun h => h)
        have hsr4 := hsr.up hf4
        clear b0 b1 b2 b3 b4 hf4 hfr hrow hbr hsr
        cases hz : isQ ⟨k, N, o, t, l⟩ sec m.testBit with
        | false =>
          have HZ := Lib.hid hz
          have HX := Lib.hid (And.intro hfr4 hrow4)
          clear hz hfr4 hrow4
          go_wp2_with fail
          go_roundg (K - (m + 1))
          case measure => have := HJ.out; omega
          case rel => exact ⟨m + 1, va, vc, L, by have := HJ.out; omega, rfl, by go_num, by rw [HN.out]; unfold isLeast; rw [HZ.out, HJ.out.2]; simp, HX.out.2, HX.out.1⟩
        | true =>
          have HZ := Lib.hid hz
          clear hz
          have b0 := hbr4.cell 0 rfl
          have b1 := hbr4.cell 1 rfl
          have b2 := hbr4.cell 2 rfl
          have b3 := hbr4.cell 3 rfl
          have b4 := hbr4.cell 4 rfl
          go_wp2_with fail
          refine (HL.out m (by omega) w4 hsr4).mono ?_
          rintro e w5 ⟨rfl, hf5⟩
          have hfr5 := hfr4.tr hf5
          have hrow5 := own_fr hrow4 hf5 (fun _ _ h => h)
          clear b0 b1 b2 b3 b4 hf5 hfr4 hrow4 hbr4 hsr4
          cases hy : leastB ⟨k, N, o, t, l⟩ sec m.testBit with
          | false =>
            have HY := Lib.hid hy
            have HX := Lib.hid (And.intro hfr5 hrow5)
            clear hy hfr5 hrow5
            go_wp2_with fail
            go_roundg (K - (m + 1))
            case measure => have := HJ.out; omega
            case rel => exact ⟨m + 1, va, vc, L, by have := HJ.out; omega, rfl, by go_num, by rw [HN.out]; unfold isLeast; rw [HZ.out, HY.out, HJ.out.2]; simp, HX.out.2, HX.out.1⟩
          | true =>
            have HY := Lib.hid hy
            obtain ⟨w6, hw6⟩ : ∃ w6, w6 = w5.alloc (.cells #[.int .u32 (m : Int)] 29) := ⟨_, rfl⟩
            have hf6 : Fr (fun _ => False) w5 w6 := by rw [hw6]; exact (Fr.refl _ w5).alloc _
            have hn6 : ∀ j u, [Value.int .u32 (m : Int)][j]? = some u → w6.cell? (Addr.add ⟨w5.heap.size, 0, none⟩ j) = some u := by
              rw [hw6]; exact World.news_of_block (cs := #[.int .u32 (m : Int)]) (t := 29) (fr := (0, 0)) (heap_alloc_new w5 _)
            have hrow6 := own_fr hrow5 hf6 (fun _ _ h => h)
            have hfr6 := hfr5.tr hf6
            have hz6 : w2.heap.size ≤ w6.heap.size := hfr6.size
            have HW6 := Lib.hid hw6
            have HX := Lib.hid hfr6
            clear hw6 hf6 hfr5 hrow5 hfr6 hy
            go_wp2_with (first
              | (at_builtin
                 rw [← HW6.out]
                 clear HW6
                 refine wpList_bi2 rfl .append _ _ _ _ _ rfl rfl rfl _ (ap_cells (base := w2.heap.size) Try.underlying27 hi0 hz0 hz1 hz2 rfl (by omega) hrow6 ⟨w5.heap.size, 0, none⟩ 1 1 [.int .u32 (m : Int)] rfl hn6 (by simp [Value.oneCell']) (by unfold maxLen; omega) (by omega) hz6) ?_
                 rintro v' w7 hap
                 obtain ⟨na, nc, rfl⟩ := own_sl hap.1))
            go_roundg (K - (m + 1))
            case measure => have := HJ.out; omega
            case rel =>
              refine ⟨m + 1, na, nc, L ++ [m], by have := HJ.out; omega, by simp, by go_num, by rw [HN.out]; unfold isLeast; rw [HZ.out, HY.out, HJ.out.2]; simp, ?_, hap.fr HX.out (fun k' hk' hlt' => by have := (hrow6.lt k' hk').1; omega)⟩
              rw [List.length_append, List.length_singleton]
              have e : u32s (L ++ [m]) = u32s L ++ [.int .u32 (m : Int)] := by simp [u32s]
              rw [e]
              exact hap.1
      · obtain rfl : m = K := by omega
        have HX := Lib.hid (And.intro hfr hrow)
        clear hfr hrow hnx
        go_wp2_with fail
        go_ret
        refine ⟨_, rfl, ?_, hff.tr HX.out.1⟩
        rw [← HJ.out.2]
        exact own_up (own_base HX.out.2) (fun k' hk' => by have := (HX.out.2.lt k' hk').1; have := hff.size; omega)
  · have hLQ : leastQ q sec = [] := by unfold leastQ; rw [if_neg h]
    rw [hLQ]
    obtain ⟨k, n, o, t, l⟩ := q
    have hs0 := hs
    obtain ⟨A, c, rfl, -⟩ := hs0
    have hf := (Fr.refl (fun _ => False) w).alloc (.cells #[.int .i64 k, .int .i64 n, .int .i64 o, .int .i64 t, .slice A l.length c] 24)
    have HF := Lib.hid (And.intro hf (hs.up hf))
    simp only [Qu.v] at hl HC ⊢
    have h' : (rightE ⟨k, n, o, t, l⟩ == 0) = false := by simp [h]
    clear hf hs h hLQ
    go_enter Try.func11, Try.ntmps11
    go_wp2_with fail
    refine (HC.out _ HF.out.2 hl).mono ?_
    rintro e w2 ⟨rfl, hf2⟩
    go_wp2_with fail
    go_ret
    exact ⟨_, rfl, World.ownsRow_nil _ _ _ _, HF.out.1.tr hf2⟩
end Go.Proofs.Ytpcfeiejfomnoaa
