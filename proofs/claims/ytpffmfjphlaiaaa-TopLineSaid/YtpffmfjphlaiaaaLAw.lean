/- The law: TopLine. -/
import Derived.Test.YtpffmfjphlaiaaaLZ
namespace Go.Proofs.Ytpffmfjphlaiaaa
open Go.RowKit

theorem take_take_len (l : List (List UInt8)) : l.take (l.take 40).length = l.take 40 := by
  rw [List.length_take]
  by_cases h : 40 ≤ l.length
  · rw [Nat.min_eq_left h]
  · rw [Nat.min_eq_right (by omega), List.take_length, List.take_of_length_le (by omega)]
theorem RowB.drewN {w : World} {v : Value} {ps : List (List UInt8)} (h : RowB w v ps) (n : Nat) : RowB (w.drewN n) v ps := h.fr0 ((Fr.refl _ w).drewN n)

set_option maxRecDepth 100000 in
set_option maxHeartbeats 8000000 in
theorem top_law (z1 z2 : Int) (vl vm : Value) (l : List (List UInt8)) (ms : List Mov) (W : World) (hl : RowL W vl l) (hm : MovL W vm ms) :
    Calls Try.prog 3 #[.int .i64 z1, .int .i64 z2, vl, vm] W fun e W' => e = .returned (.bool true) ∧ Below W.heap.size W W' := by
  have HL := Lib.hid hl
  have HM := Lib.hid hm
  obtain ⟨A, c, rfl, ⟨hlc, hcm⟩, -⟩ := hl
  obtain ⟨B, d, rfl, ⟨hmc, hdm⟩, -⟩ := hm
  have hop0 := opened_any 0 0 (.slice none 0 0) [] (fun _ => []) W ⟨none, 0, rfl, ⟨by simp, by simp [maxLen]⟩, fun i y hy => by simp at hy⟩ (by simp) (fun i y hy => by simp at hy)
  have HO0 := Lib.hid hop0
  clear hop0
  unfold maxLen at hcm hdm
  go_enter Try.func3, Try.ntmps3
  go_wp2_with fail
  go_loopg [9] l.length (fun g x9 wr => ∃ (j : Nat), j + g = l.length ∧ x9 = .int .i64 j ∧ (∀ (i : Nat) (y : List UInt8), i < j → l[i]? = some y → y.length ≤ 1000) ∧ W = wr)
  case atStart => exact ⟨0, by omega, rfl, fun i y hi => by omega, rfl⟩
  case round =>
    obtain ⟨j, hj, rfl, hall, rfl⟩ := hrel
    have HJ := Lib.hid (And.intro hj hall)
    by_cases hjl : j < l.length
    · obtain ⟨y, hy⟩ : ∃ y, l[j]? = some y := ⟨_, List.getElem?_eq_getElem hjl⟩
      obtain ⟨A1, c1, e1, -, h1⟩ := HL.out
      obtain ⟨b1, o1, rfl, s1, hat, hby, -, -⟩ := h1 j y hy
      injection e1 with e1 _ e3
      subst e1 e3
      obtain ⟨sA, sc, rfl, -, -⟩ := hby
      have hj1 : (j : Int) < (l.length : Int) := by omega
      have HY := Lib.hid hy
      clear h1 hy hj hall
      by_cases hyl : y.length ≤ 1000
      · have hyi : (y.length : Int) ≤ 1000 := by omega
        have HYL := Lib.hid hyl
        clear hyl
        go_wp2_with fail
        go_roundg (l.length - (j + 1))
        case measure => have := HJ.out.1; omega
        case rel =>
          refine ⟨j + 1, by have := HJ.out.1; omega, by go_num, fun i y' hi hy' => ?_, rfl⟩
          by_cases hij : i = j
          · subst hij
            have h2 := HY.out
            rw [hy'] at h2
            injection h2 with h2
            rw [h2]
            exact HYL.out
          · exact HJ.out.2 i y' (by omega) hy'
      · have hyi : (1000 : Int) < (y.length : Int) := by omega
        clear hyl
        go_wp2_with fail
        refine HO0.out.mono ?_
        rintro e w1 ⟨a, sb, rb, mb, nb, win, span, col, rfl, -, -, -, hT⟩
        have HT := Lib.hid hT
        clear hT
        go_wp2_with fail
        go_ret
        exact ⟨rfl, HT.out.below⟩
    · obtain rfl : j = l.length := by omega
      clear hj hall
      have HALL := Lib.hid (fun (i : Nat) (y : List UInt8) (hy : l[i]? = some y) => HJ.out.2 i y (List.getElem?_eq_some_iff.1 hy).1 hy)
      have HLt := Lib.hid (HL.out.take (n := (l.take 40).length) (by rw [List.length_take]; omega))
      go_upto_if 31 with (fail)
      go_cut [2] (fun x2 wx => x2 = .slice A (l.take 40).length c ∧ W = wx)
      case first =>
        by_cases h40 : l.length ≤ 40
        · have h40i : (l.length : Int) ≤ 40 := by omega
          have ht : (l.take 40).length = l.length := by rw [List.length_take]; omega
          have HT := Lib.hid ht
          clear ht h40
          go_wp2_with fail
          go_meet
          exact ⟨by rw [HT.out], rfl⟩
        · have h40i : (40 : Int) < (l.length : Int) := by omega
          have ht : (l.take 40).length = 40 := by rw [List.length_take]; omega
          have HT := Lib.hid ht
          have hc40 : 40 ≤ c := by omega
          have hc40i : (40 : Int) ≤ (c : Int) := by omega
          clear ht h40
          go_wp2_with fail
          go_meet
          exact ⟨by rw [HT.out], rfl⟩
      case rest =>
        obtain ⟨rfl, hwc⟩ := hcut
        subst hwc
        obtain ⟨k, hk⟩ : ∃ k, k = l.take 40 := ⟨_, rfl⟩
        have hk40 : k.length ≤ 40 := by rw [hk, List.length_take]; omega
        have hkc : k.length ≤ c := by rw [hk, List.length_take]; omega
        have hkb : ∀ (i : Nat) (y : List UInt8), k[i]? = some y → y.length ≤ 1000 := fun i y hy => by
          rw [hk, List.getElem?_take] at hy
          split at hy
          · exact HALL.out i y hy
          · cases hy
        have hkL : RowL W (.slice A k.length c) k := by
          have h := HLt.out
          rw [take_take_len] at h
          rw [hk]
          exact h
        rw [← hk]
        have hop := opened_any z1 z2 _ k (bdOf k) W hkL hk40 (fun i y hy => ⟨hkb i y hy, bdOf_at hy⟩)
        have HO := Lib.hid hop
        have HK := Lib.hid (And.intro hkL (And.intro hkb (bdOf_len hkb)))
        have hki : (k.length : Int) ≤ 40 := by omega
        have hkci : (k.length : Int) ≤ (c : Int) := by omega
        clear hk hkL hkb hop HALL HLt HL HJ HO0
        go_wp2_with fail
        refine HO.out.mono ?_
        rintro e w1 ⟨a, sb, rb, mb, nb, win, span, col1, rfl, hwin, hspan, hL1, hT1⟩
        have H1 := Lib.hid (And.intro hwin (And.intro hspan (And.intro hL1 hT1)))
        clear hwin hspan hL1 hT1
        go_upto_block 2 with (fail)
        go_cut [11] (fun _ wx => ∃ (st : Ls) (col : Nat → Nat), LnR wx a sb rb mb nb st (bdOf k) win span col ∧ Good k.length st ∧ st.now ≤ 300 ∧ st.n ≤ 300 ∧ Tr W wx (fun _ => 0) col)
        case first =>
          go_wp2_with fail
          go_loopg [11] ms.length (fun g x11 wr => ∃ (j : Nat) (st : Ls) (col : Nat → Nat), j + g = ms.length ∧ x11 = .int .i64 j ∧ j ≤ 300 ∧ LnR wr a sb rb mb nb st (bdOf k) win span col ∧ Good k.length st ∧ st.now ≤ j ∧ st.n ≤ j ∧ Tr W wr (fun _ => 0) col)
          case atStart => exact ⟨0, st0 k.length, col1, by omega, rfl, by omega, H1.out.2.2.1, Good.start hk40, by simp [st0], by simp [st0], H1.out.2.2.2⟩
          case round =>
            obtain ⟨j, st, col, hj, rfl, hj300, hLn, hG, hnow, hn, hT⟩ := hrel
            have HJ := Lib.hid (And.intro hj (And.intro hG (And.intro hnow (And.intro hn hT))))
            have HLn := Lib.hid hLn
            by_cases hjm : j < ms.length
            · have hjmi : (j : Int) < (ms.length : Int) := by omega
              by_cases hj3 : j < 300
              · have hj3i : (j : Int) < 300 := by omega
                obtain ⟨m, hm⟩ : ∃ m, ms[j]? = some m := ⟨_, List.getElem?_eq_getElem hjm⟩
                obtain ⟨B1, d1, e1, -, h1⟩ := HM.out.tr hT
                obtain ⟨b1, o1, rfl, q0, q1, q2, -⟩ := h1 j m hm
                injection e1 with e1 _ e3
                subst e1 e3
                have hmv := moves_any k.length a sb rb mb nb st (bdOf k) win span col m.k m.a m.b wr hLn hG HK.out.2.2 (by omega) (by omega)
                have HMv := Lib.hid hmv
                clear hmv h1 hm hLn hG hT hnow hn hj
                go_wp2_with fail
                refine HMv.out.mono ?_
                rintro e w2 ⟨rfl, st2, col2, hL2, hG2, hnow2, hn2, hT2⟩
                obtain ⟨lv, vs, hB2, hO2⟩ := hL2.ex
                have hT' := HJ.out.2.2.2.2.trans hT2
                have hgl := hG2.gl
                have hsl := ((HK.out.1.tr hT').take hgl).b
                have hol := hO2.b
                rw [bdOf_rows hgl] at hol
                have HS := Lib.hid (fun n => lists_any _ _ _ (w2.drewN n) (hol.drewN n) (hsl.drewN n))
                obtain ⟨oA, oc, rfl, hoc⟩ : ∃ oA oc, lv = .slice oA st2.got oc ∧ oc ≤ maxLen := by
                  obtain ⟨oA, oc, h1, h2, -⟩ := hol
                  exact ⟨oA, oc, by rw [h1, List.length_take, Nat.min_eq_left hgl], h2.2⟩
                have a3 : w2.cell? ⟨a, 3, none⟩ = some (.slice oA st2.got oc) := hB2.cell 3 rfl
                have a4 : w2.cell? ⟨a, 4, none⟩ = some (.bool false) := hB2.cell 4 rfl
                have H2 := Lib.hid (And.intro hL2 (And.intro hG2 (And.intro hnow2 (And.intro hn2 hT'))))
                have hgi : (st2.got : Int) ≤ (k.length : Int) := by omega
                have hgd : decide ((k.length : Int) < (st2.got : Int)) = false := decide_eq_false (by omega)
                have hgdn : decide (k.length < st2.got) = false := decide_eq_false (by omega)
                have hgc : (st2.got : Int) ≤ (c : Int) := by omega
                have hgcn : st2.got ≤ c := by omega
                clear hL2 hG2 hnow2 hn2 hT2 hT' hB2 hO2 hsl hol hoc q0 q1 q2
                go_upto_region 15 with (fail)
                go_quiet ((go_at_call 6; exact Calls.quiet_of (HS.out _)))
                go_wp2_with fail
                go_roundg (ms.length - (j + 1))
                case measure => have := HJ.out.1; omega
                case rel => exact ⟨j + 1, st2, col2, by have := HJ.out.1; omega, by go_num, by omega, H2.out.1.fr0 ((Fr.refl _ w2).drewN _), H2.out.2.1, by have := H2.out.2.2.1; have := HJ.out.2.2.1; omega, by have := H2.out.2.2.2.1; have := HJ.out.2.2.2.1; omega, H2.out.2.2.2.2.trans (Tr.of0 ((Fr.refl _ w2).drewN _))⟩
              · have hj3i : (300 : Int) ≤ (j : Int) := by omega
                clear hLn hG hT hnow hn hj
                go_wp2_with fail
                go_meet
                exact ⟨st, col, HLn.out, HJ.out.2.1, by have := HJ.out.2.2.1; omega, by have := HJ.out.2.2.2.1; omega, HJ.out.2.2.2.2⟩
            · have hjmi : (ms.length : Int) ≤ (j : Int) := by omega
              clear hLn hG hT hnow hn hj
              go_wp2_with fail
              go_meet
              exact ⟨st, col, HLn.out, HJ.out.2.1, by have := HJ.out.2.2.1; omega, by have := HJ.out.2.2.2.1; omega, HJ.out.2.2.2.2⟩
        case rest =>
          obtain ⟨st, col, hLn, hG, hnow, hn, hT⟩ := hcut
          have hdr := join_any nb 2 _ _ _ 0 1 wc hLn.net
          rw [setP_ap] at hdr
          have HJn := Lib.hid hdr
          obtain ⟨lv, vs, hB2, -⟩ := hLn.ex
          have a2 : wc.cell? ⟨a, 2, none⟩ = some (.pointer (some ⟨nb, 0, none⟩)) := hB2.cell 2 rfl
          have H2 := Lib.hid (And.intro hLn (And.intro hG (And.intro hnow (And.intro hn hT))))
          clear hLn hG hnow hn hT hdr hB2
          go_wp2_with fail
          refine HJn.out.mono ?_
          rintro e w3 ⟨rfl, hN3, hf3⟩
          obtain ⟨col3, hL3, hR3⟩ := H2.out.1.net_ (L' := st.L) (ap := false) hN3 (fun k hk => .inl hk) hf3
          have hF3 := Fin.start (span := span) H2.out.2.1 H2.out.2.2.1 H2.out.2.2.2.1
          have H3 := Lib.hid (And.intro hL3 (And.intro hF3 (H2.out.2.2.2.2.trans (hR3.tr_ (by omega)))))
          clear hN3 hf3 hL3 hR3 hF3 a2
          go_wp2_with fail
          go_loopg [12] (4 * (k.length + 1)) (fun g x12 wr => ∃ (r : Nat) (st : Ls) (col : Nat → Nat), r + g = 4 * (k.length + 1) ∧ x12 = .int .i64 r ∧ LnR wr a sb rb mb nb st (bdOf k) win span col ∧ Fin k.length span r st ∧ Tr W wr (fun _ => 0) col)
          case atStart => exact ⟨0, _, col3, by omega, rfl, H3.out.1, H3.out.2.1, H3.out.2.2⟩
          case round =>
            obtain ⟨r, st, col, hr, rfl, hLn, hF, hT⟩ := hrel
            have HF := Lib.hid (And.intro hr (And.intro hF (And.intro hLn hT)))
            by_cases hrl : r < 4 * (k.length + 1)
            · have hrli : (r : Int) < 4 * ((k.length : Int) + 1) := by omega
              have htk := ltick_any a sb rb mb nb st (bdOf k) win span col wr hLn HK.out.2.2 (by have := hF.now; omega) (by have := hF.good.sum; have := hF.good.len; omega)
              have HTk := Lib.hid htk
              clear hr hLn hF hT htk
              go_wp2_with fail
              refine HTk.out.mono ?_
              rintro e w4 ⟨rfl, col4, hL4, hT4⟩
              have hR4 := Rnd.start (span := span) HF.out.2.1.good HF.out.2.1.ap H1.out.1.1
              have H4 := Lib.hid (And.intro hL4 (And.intro hR4 (HF.out.2.2.2.trans hT4)))
              clear hL4 hT4 hR4
              go_wp2_with fail
              go_loopg [13] (weight (tickSt st win span).L) (fun g _ wq => ∃ (st' : Ls) (col' : Nat → Nat), weight st'.L = g ∧ LnR wq a sb rb mb nb st' (bdOf k) win span col' ∧ Rnd k.length (st.now + 1) st.acked (tkS (st.now + 1) span (min st.S.length win) st.S) (Due span st) (st.n + 512) st' ∧ Tr W wq (fun _ => 0) col')
              case atStart => exact ⟨_, col4, rfl, H4.out.1, H4.out.2.1, H4.out.2.2⟩
              case round =>
                obtain ⟨st', col', hw, hLq, hRq, hTq⟩ := hrel
                have HQ := Lib.hid (And.intro hw (And.intro hLq (And.intro hRq hTq)))
                have hln := len_any nb 2 _ _ _ wr hLq.net
                rw [List.length_map] at hln
                have HLn := Lib.hid hln
                obtain ⟨lv, vs, hBq, -⟩ := hLq.ex
                have a2 : wr.cell? ⟨a, 2, none⟩ = some (.pointer (some ⟨nb, 0, none⟩)) := hBq.cell 2 rfl
                have hroom := hRq.good.room
                obtain ⟨q, hq⟩ : ∃ q, q = st'.L.length := ⟨_, rfl⟩
                rw [← hq] at HLn hroom
                by_cases hq0 : q = 0
                · subst hq0
                  have hnil : st'.L = [] := List.eq_nil_of_length_eq_zero hq.symm
                  have HNil := Lib.hid hnil
                  clear hw hLq hRq hTq hln hBq hq hnil hroom
                  go_wp2_with fail
                  refine HLn.out.mono ?_
                  rintro e w5 ⟨rfl, rfl⟩
                  go_wp2_with fail
                  go_roundg (4 * (k.length + 1) - (r + 1))
                  case measure => have := HF.out.1; omega
                  case rel =>
                    refine ⟨r + 1, st', col', by have := HF.out.1; omega, by go_num, HQ.out.2.1, ?_, HQ.out.2.2.2⟩
                    exact HF.out.2.1.next H1.out.2.1 H1.out.1.1 HF.out.2.2.1.snd.le rfl HQ.out.2.2.1 HNil.out
                · have hqi : (0 : Int) < (q : Int) := by omega
                  obtain ⟨p, rest, hL⟩ : ∃ p rest, st'.L = p :: rest := by
                    cases h : st'.L with
                    | nil => rw [h] at hq; simp at hq; omega
                    | cons p rest => exact ⟨p, rest, rfl⟩
                  have hp2 : at? (st'.L.map (pkOf (bdOf k))) 0 = some (pkOf (bdOf k) p) := by rw [hL]; simp [at?]
                  have hdr := take_some nb 2 _ _ _ 0 _ hp2 wr hLq.net.cap (fun k hk => hk.2)
                  have HTa := Lib.hid hdr
                  obtain ⟨pf, hpf⟩ : ∃ pf, pf = (pkOf (bdOf k) p).f := ⟨_, rfl⟩
                  obtain ⟨pt, hpt⟩ : ∃ pt, pt = (pkOf (bdOf k) p).t := ⟨_, rfl⟩
                  obtain ⟨pl, hpl⟩ : ∃ pl, pl = (pkOf (bdOf k) p).b.length := ⟨_, rfl⟩
                  rw [← hpf, ← hpt, ← hpl] at HTa
                  have HP := Lib.hid (And.intro hpf (And.intro hpt (And.intro hpl hL)))
                  clear hw hLq hRq hTq hln hBq hq hq0 hdr hp2 hpf hpt hpl hL
                  go_wp2_with fail
                  refine HLn.out.mono ?_
                  rintro e w5 ⟨rfl, rfl⟩
                  go_wp2_with fail
                  refine HTa.out.mono ?_
                  rintro e w5 ⟨g, cap, rfl, ho5, hg5, hN5, hf5⟩
                  have hN5' : NetR w5 nb 2 (rest.map (pkOf (bdOf k))) (apF st'.apart) (fun x => (col' x = 3 ∧ x < wr.heap.size) ∧ x ≠ g) := by
                    rw [HP.out.2.2.2] at hN5
                    exact hN5
                  obtain ⟨hL5, hT5⟩ := HQ.out.2.1.take hN5' hg5 hf5
                  obtain ⟨w6, hw6⟩ : ∃ w6, w6 = w5.alloc (Obj.cells #[.int .i64 pf, .int .i64 pt, .slice (some ⟨g, 0, none⟩) pl cap] 40) := ⟨_, rfl⟩
                  have hf6 : Fr (fun _ => False) w5 w6 := by rw [hw6]; exact (Fr.refl _ w5).alloc _
                  have hB6 : Blk w6 w5.heap.size 40 #[.int .i64 pf, .int .i64 pt, .slice (some ⟨g, 0, none⟩) pl cap] := by rw [hw6]; exact Blk.new _ _ _
                  have q0 : w6.cell? ⟨w5.heap.size, 0, none⟩ = some (.int .i64 pf) := hB6.cell 0 rfl
                  have q1 : w6.cell? ⟨w5.heap.size, 1, none⟩ = some (.int .i64 pt) := hB6.cell 1 rfl
                  have q2 : w6.cell? ⟨w5.heap.size, 2, none⟩ = some (.slice (some ⟨g, 0, none⟩) pl cap) := hB6.cell 2 rfl
                  have hcm := comes_end k.length (st.now + 1) st.acked (st.n + 512) (tkS (st.now + 1) span (min st.S.length win) st.S) (Due span st) a sb rb mb nb st' (bdOf k) win span _ p rest g cap w6 (hL5.fr0 hf6) HQ.out.2.2.1 HP.out.2.2.2 HK.out.2.2 (by have := HF.out.2.1.n; have := HF.out.1; omega) (by rw [← HP.out.2.2.1]; exact own_fr ho5 hf6 (fun _ _ h => h))
                  rw [← HP.out.1, ← HP.out.2.1, ← HP.out.2.2.1] at hcm
                  have HC := Lib.hid (And.intro hcm (HQ.out.2.2.2.trans (hT5.trans (Tr.of0 hf6))))
                  have HW6 := Lib.hid hw6
                  clear hcm hw6 hf6 hB6 hL5 hT5 hN5 hN5' ho5 hg5 hf5 a2
                  go_upto_region 24 with (fail)
                  rw [← HW6.out]
                  go_wp2_with fail
                  refine HC.out.1.mono ?_
                  rintro e w7 ⟨rfl, st7, col7, hL7, hR7, hw7, hT7⟩
                  have H7 := Lib.hid (And.intro hL7 (And.intro hR7 (And.intro hw7 hT7)))
                  clear hL7 hR7 hw7 hT7 q0 q1 q2
                  go_wp2_with fail
                  go_roundg (weight st7.L)
                  case measure => have := H7.out.2.2.1; have := HQ.out.1; omega
                  case rel => exact ⟨st7, col7, rfl, H7.out.1, H7.out.2.1, HC.out.2.trans H7.out.2.2.2⟩
            · have hrli : 4 * ((k.length : Int) + 1) ≤ (r : Int) := by omega
              obtain rfl : r = 4 * (k.length + 1) := by omega
              clear hr hLn hF hT
              obtain ⟨hS0, hgot⟩ := HF.out.2.1.done
              obtain ⟨lv, vs, hB5, hO5⟩ := HF.out.2.2.1.ex
              have hsl := (HK.out.1.tr HF.out.2.2.2).b
              have hol := hO5.b
              rw [hgot, bdOf_rows (Nat.le_refl _), List.take_length] at hol
              have HS := Lib.hid (fun n => lists_any _ _ _ (wr.drewN n) (hol.drewN n) (hsl.drewN n))
              have HLf : Hid (∀ n, Calls Try.prog 12 #[.pointer (some ⟨sb, 0, none⟩)] (wr.drewN n) fun e w' => e = .returned (.int .i64 0) ∧ w' = wr.drewN n) := Lib.hid fun n => by
                have h := left_any sb _ _ _ _ _ _ _ (wr.drewN n) (HF.out.2.2.1.fr0 ((Fr.refl _ wr).drewN n)).snd
                rw [hS0] at h
                exact h.mono fun _ _ ⟨h1, h2⟩ => ⟨h1, h2.symm⟩
              have a0 : wr.cell? ⟨a, 0, none⟩ = some (.pointer (some ⟨sb, 0, none⟩)) := hB5.cell 0 rfl
              have a3 : wr.cell? ⟨a, 3, none⟩ = some lv := hB5.cell 3 rfl
              have a4 : wr.cell? ⟨a, 4, none⟩ = some (.bool false) := hB5.cell 4 rfl
              clear hS0 hgot hB5 hO5 hsl hol
              go_upto_region 27 with (fail)
              go_wp2_with fail
              refine (HLf.out 0).mono ?_
              rintro e w5 ⟨rfl, rfl⟩
              go_wp2_with fail
              refine (HS.out 0).mono ?_
              rintro e w5 ⟨rfl, m, rfl⟩
              go_wp2_with fail
              go_ret
              exact ⟨rfl, (HF.out.2.2.2.trans (Tr.of0 (((Fr.refl _ wr).drewN 0).drewN m))).below⟩
end Go.Proofs.Ytpffmfjphlaiaaa
