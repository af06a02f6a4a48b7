/- The walk of NetPlays. -/
import Derived.Test.YtemjgllijlaejaaRefH
namespace Go.Proofs.Ytemjgllijlaejaa
open Go.RowKit

/-- Both nets after so many acts. -/
def Both (W : World) (nb mb : Nat) (N : Int) (m : Nat) (w : World) : Prop := ∃ L A F P G, Two W w nb mb N L A F L P G ∧ Fit N L A P m

theorem at?_nat {L : List Pk} {j : Nat} {p : Pk} (h : L[j]? = some p) : at? L (j : Int) = some p := by
  unfold at?
  rw [if_pos (by omega)]
  simpa using h
set_option maxRecDepth 100000 in
set_option maxHeartbeats 8000000 in
theorem plays_bad (W : World) (n : Int) (x : Value) (hn : n < 1 ∨ 12 < n) :
    Calls Try.prog 7 #[.int .i64 n, x] W fun e w' => e = .returned (.bool true) ∧ Below W.heap.size W w' := by
  have HN := Lib.hid hn
  clear hn
  go_enter Try.func7, Try.ntmps7
  go_wp2_with fail
  refine (new_bad n W HN.out).mono ?_
  rintro e w1 ⟨rfl, rfl⟩
  go_wp2_with fail
  refine (rnew_bad n _ HN.out).mono ?_
  rintro e w1 ⟨rfl, rfl⟩
  go_wp2_with fail
  refine (known_any _).mono ?_
  rintro e w4 ⟨rfl, hf4⟩
  go_wp2_with fail
  go_ret
  exact ⟨rfl, hf4.none_up.below (Nat.le_refl _)⟩

set_option maxRecDepth 100000 in
set_option maxHeartbeats 16000000 in
theorem plays_ok (W : World) (n : Int) (x : Value) (l : List At) (hx : AtL W x l) (h1 : 1 ≤ n) (h2 : n ≤ 12) :
    Calls Try.prog 7 #[.int .i64 n, x] W fun e w' => e = .returned (.bool true) ∧ Below W.heap.size W w' := by
  obtain ⟨A, c, rfl, hlm, hl⟩ := hx
  unfold maxLen at hlm
  have HL := Lib.hid hl
  clear hl
  go_enter Try.func7, Try.ntmps7
  go_wp2_with fail
  refine (new_st n W h1 h2 W.heap.size (Nat.le_refl _)).mono ?_
  rintro e w1 ⟨nb, F, rfl, hS, hn, hf1⟩
  go_wp2_with fail
  refine (rnew_ok n w1 h1 h2).mono ?_
  rintro e w2 ⟨rfl, hR, hz2, hf2⟩
  obtain ⟨mb, hmb⟩ : ∃ mb, mb = w1.heap.size := ⟨_, rfl⟩
  rw [← hmb] at hR hz2 ⊢
  have hmb' : w1.heap.size ≤ mb ∧ mb < w2.heap.size := by omega
  have T : Two W w2 nb mb n [] (fun _ _ => false) F [] [] (fun k => k = mb) :=
    ⟨hS.fr hf2 (fun _ _ h => h), hR, fun k hk => by have := hf1.size; omega, fun k hk => by omega, fun k hk hm => by have := hS.hi k hk; omega, (hf1.tr hf2).none_up⟩
  have hB : Both W nb mb n 0 w2 := ⟨_, _, _, _, _, T, ⟨fun p hp => by simp at hp, fun a b => by simp [pB], by simp⟩⟩
  have HB := Lib.hid hB
  clear hS hn hf1 hR hz2 hmb hmb' T hB hf2
  go_wp2_with fail
  go_loopg [9] l.length (fun g x9 wr => ∃ (k : Nat), k + g = l.length ∧ k ≤ 400 ∧ x9 = .int .i64 k ∧ Both W nb mb n k wr)
  case atStart => exact ⟨0, by omega, by omega, rfl, HB.out⟩
  case round =>
    clear HB
    obtain ⟨k, hk, hk400, rfl, L, A', F, P, G, T, fit⟩ := hrel
    have HK := Lib.hid hk
    have hk' : k ≤ l.length := by omega
    clear hk
    by_cases hlt : k < l.length ∧ k < 400
    · obtain ⟨hlt, hlt2⟩ := hlt
      obtain ⟨z, hz⟩ : ∃ z, l[k]? = some z := ⟨_, List.getElem?_eq_getElem hlt⟩
      obtain ⟨b, off, s, rfl, hbl, hi1, hi2, hi3, hc1, hc2, hc3, hat⟩ := HL.out k z hz
      obtain ⟨zk, za, zb, p⟩ := z
      simp only at hi1 hi2 hi3 hc1 hc2 hc3 hat
      have hbyt := hat.b
      have hbyt0 := hbyt
      obtain ⟨sa, sc, rfl, -, -⟩ := hbyt0
      have hpl := hat.l
      unfold maxLen at hpl
      have hat' := hat.keep (Nat.le_refl _) T.fr
      have q0 := T.fr.cell hc1 (by simp; omega)
      have q1 := T.fr.cell hc2 (by simp; omega)
      have q2 := T.fr.cell hc3 (by simp; omega)
      have q3 := hat'.f
      have q4 : wr.cell? ⟨b, off + k * 6 + 4, none⟩ = _ := hat'.t
      have q5 : wr.cell? ⟨b, off + k * 6 + 5, none⟩ = _ := hat'.c
      have hbw := hat'.b
      clear hat hat' hc1 hc2 hc3
      by_cases hlong : 3000 < p.b.length
      · go_wp2_with fail
        refine (long_any p _ wr hbw).mono ?_
        rintro e w3 ⟨rfl, hf3⟩
        rw [decide_eq_true hlong]
        have T3 := T.up hf3
        clear q0 q1 q2 q3 q4 q5
        go_wp2_with fail
        refine (known_any w3).mono ?_
        rintro e w4 ⟨rfl, hf4⟩
        go_wp2_with fail
        go_ret
        exact ⟨rfl, (T3.fr.tr hf4.none_up).below (Nat.le_refl _)⟩
      · go_wp2_with fail
        refine (long_any p _ wr hbw).mono ?_
        rintro e w3 ⟨rfl, hf3⟩
        rw [decide_eq_false hlong]
        have T3 := T.up hf3
        have q0' := hf3.cell q0 (fun h => h)
        have q1' := hf3.cell q1 (fun h => h)
        have q2' := hf3.cell q2 (fun h => h)
        have q3' := hf3.cell q3 (fun h => h)
        have q4' := hf3.cell q4 (fun h => h)
        have q5' := hf3.cell q5 (fun h => h)
        clear q0 q1 q2 q3 q4 q5 hf3
        go_wp2_with fail
        refine (play_any W w3 nb mb n L A' F P G k zk za zb p _ T3 fit (by omega) hbyt (by omega)).mono ?_
        rintro e w4 ⟨rfl, L2, A2, F2, P2, G2, T4, fit2⟩
        obtain ⟨ra, rc, j1, hmb, -⟩ := T4.rf.row
        clear q0' q1' q2' q3' q4' q5' T3 T fit hbw
        go_upto_region 13 with (fail)
        go_region_held3 (fun wx => wx.cell? ⟨mb, 1, none⟩ = some (.slice ra L2.length rc)) (first | exact j1 | assumption)
          ((go_at_call 15
            refine (len_any nb n L2 A2 F2 _ (NetR.drewN T4.st.r 1)).mono ?_
            rintro e w5 ⟨rfl, rfl⟩))
        all_goals
          have HB := Lib.hid (show Both W nb mb n (k + 1) _ from ⟨L2, A2, F2, P2, G2, T4.up ((Fr.refl _ w4).drew), fit2⟩)
          clear j1 hmb T4 fit2
          go_wp2_with fail
          go_roundg (l.length - (k + 1))
          case measure => have := HK.out; omega
          case rel => exact ⟨k + 1, by omega, by omega, by go_num, HB.out⟩
    · have fitS := fit.sm
      have room := T.st.r.room
      by_cases hlt1 : k < l.length
      all_goals
        go_wp2_with fail
        go_loopg [11] L.length (fun g x11 wx => ∃ (j : Nat), j + g = L.length ∧ x11 = .int .i64 j ∧ Two W wx nb mb n L A' F L P G)
        case atStart => exact ⟨0, by omega, rfl, T⟩
        case round =>
          clear T fit
          obtain ⟨j, hj, rfl, T⟩ := hrel
          have HJ := Lib.hid hj
          have hj' : j ≤ L.length := by omega
          clear hj
          by_cases hjl : j < L.length
          · obtain ⟨p, hp⟩ : ∃ p, L[j]? = some p := ⟨_, List.getElem?_eq_getElem hjl⟩
            have hjl' : (j : Int) < (L.length : Int) := by omega
            have hat := Lib.hid (at?_nat hp)
            have hpb := fitS p (List.mem_of_getElem? hp)
            obtain ⟨a1, a2, j1, hmb, -⟩ := T.rf.row
            go_wp2_with fail
            refine (look_some nb n L A' F j p hat.out (by omega) _ T.st.r).mono ?_
            rintro e w2 ⟨g, cap, rfl, ho, hg, hf2⟩
            have T2 := T.up hf2
            obtain ⟨w3, r, hw3, hr, hb3, T3, nf3, ng3, lo3, hf3⟩ := T2.new #[.int .i64 p.f, .int .i64 p.t, .slice (some ⟨g, 0, none⟩) p.b.length cap] 29
            have ho3 := Byt.of_own (own_fr ho hf3 (fun _ _ h => h))
            obtain ⟨gr, lc, s, d0, d1, d2, d3, hos, -⟩ := T3.rf.pk hp
            obtain ⟨sa, sc, rfl⟩ := own_sl hos
            have hs3 := Byt.of_own hos
            have c0 := hb3.cell 0 rfl
            have c1 := hb3.cell 1 rfl
            have c2 := hb3.cell 2 rfl
            have HW3 := Lib.hid hw3
            have HR := Lib.hid hr
            have HP := Lib.hid hp
            clear hw3 hr j1 T T2 hp
            go_upto_region 19 with (fail)
            rw [← HW3.out, ← HR.out]
            clear HW3 HR
            go_region_held3 (fun wx => wx.cell? ⟨r, 0, none⟩ = some (.int .i64 p.f) ∧ wx.cell? ⟨r, 1, none⟩ = some (.int .i64 p.t) ∧ wx.cell? ⟨r, 2, none⟩ = some (.slice (some ⟨g, 0, none⟩) p.b.length cap) ∧ wx.cell? ⟨mb, 1, none⟩ = some (.slice (some ⟨gr, 0, none⟩) L.length lc) ∧
                wx.cell? ⟨gr, j * 3, none⟩ = some (.int .i64 p.f) ∧ wx.cell? ⟨gr, j * 3 + 1, none⟩ = some (.int .i64 p.t) ∧ wx.cell? ⟨gr, j * 3 + 2, none⟩ = some (.slice sa p.b.length sc)) (first | exact ⟨c0, c1, c2, d0, d1, d2, d3⟩ | exact hS4)
              ((go_at_call 14
                refine (same_any p p _ _ _ ho3.drew hs3.drew).mono ?_
                rintro e w4 ⟨rfl, hf4⟩
                rw [sameB_refl]
                have hf5 : Fr (fun _ => False) w3 w4 := hf4.of_drew
                have hS4 : w4.cell? ⟨r, 0, none⟩ = some (.int .i64 p.f) ∧ w4.cell? ⟨r, 1, none⟩ = some (.int .i64 p.t) ∧ w4.cell? ⟨r, 2, none⟩ = some (.slice (some ⟨g, 0, none⟩) p.b.length cap) ∧ w4.cell? ⟨mb, 1, none⟩ = some (.slice (some ⟨gr, 0, none⟩) L.length lc) ∧
                  w4.cell? ⟨gr, j * 3, none⟩ = some (.int .i64 p.f) ∧ w4.cell? ⟨gr, j * 3 + 1, none⟩ = some (.int .i64 p.t) ∧ w4.cell? ⟨gr, j * 3 + 2, none⟩ = some (.slice sa p.b.length sc) :=
                  ⟨hf5.cell c0 (fun h => h), hf5.cell c1 (fun h => h), hf5.cell c2 (fun h => h), hf5.cell d0 (fun h => h), hf5.cell d1 (fun h => h), hf5.cell d2 (fun h => h), hf5.cell d3 (fun h => h)⟩))
            all_goals
              have T4 := T3.up hf5
              clear c0 c1 c2 d0 d1 d2 d3 hS4 ho3 hs3 hos T3
              go_wp2_with fail
              go_roundg (L.length - (j + 1))
              case measure => have := HJ.out; omega
              case rel => exact ⟨j + 1, by omega, by go_num, T4⟩
          · obtain rfl : j = L.length := by omega
            obtain ⟨a1, a2, j1, hmb, -⟩ := T.rf.row
            go_wp2_with fail
            refine (known_any _).mono ?_
            rintro e w4 ⟨rfl, hf4⟩
            go_wp2_with fail
            go_ret
            exact ⟨rfl, (T.fr.tr hf4.none_up).below (Nat.le_refl _)⟩

theorem plays_any (W : World) (n : Int) (x : Value) (l : List At) (hx : AtL W x l) :
    Calls Try.prog 7 #[.int .i64 n, x] W fun e w' => e = .returned (.bool true) ∧ Below W.heap.size W w' := by
  by_cases h1 : n < 1 ∨ 12 < n
  · exact plays_bad W n x h1
  · exact plays_ok W n x l hx (by omega) (by omega)
end Go.Proofs.Ytemjgllijlaejaa
