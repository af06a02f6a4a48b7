/- The walk of NetCounts. -/
import Derived.Test.YtemjgllijlaejaaNetJ
namespace Go.Proofs.Ytemjgllijlaejaa
open Go.RowKit

/-- The net under acts: its packets are no longer than they may be. -/
structure Ac (W w : World) (nb : Nat) (N : Int) (L : List Pk) (A : Nat → Nat → Bool) (F : Nat → Prop) : Prop where
  st : St W.heap.size w nb N L A F
  fr : Fr (fun k => W.heap.size ≤ k) W w
  sm : ∀ p ∈ L, p.b.length ≤ 1200
theorem Ac.mv {W w w' : World} {nb : Nat} {N : Int} {L L' : List Pk} {A A' : Nat → Nat → Bool} {F G : Nat → Prop} (h : Ac W w nb N L A F) (hS : St W.heap.size w' nb N L' A' G) (m : Mv F w G w') (hL : ∀ p ∈ L', p.b.length ≤ 1200) : Ac W w' nb N L' A' G :=
  ⟨hS, h.fr.tr (m.fr.mono fun k _ hk => h.st.lo k hk), hL⟩
theorem Ac.up {W w w' : World} {nb : Nat} {N : Int} {L : List Pk} {A : Nat → Nat → Bool} {F : Nat → Prop} (h : Ac W w nb N L A F) (hf : Fr (fun _ => False) w w') : Ac W w' nb N L A F :=
  ⟨h.st.fr hf (fun _ _ h => h), h.fr.tr hf.none_up, h.sm⟩

theorem sm_erase {L : List Pk} {i : Nat} (h : ∀ p ∈ L, p.b.length ≤ 1200) : ∀ p ∈ L.eraseIdx i, p.b.length ≤ 1200 := fun p hp => h p (List.mem_of_mem_eraseIdx hp)
theorem sm_more {L : List Pk} {q : Pk} (h : ∀ p ∈ L, p.b.length ≤ 1200) (hq : q.b.length ≤ 1200) : ∀ p ∈ L ++ [q], p.b.length ≤ 1200 := fun p hp => by
  rcases List.mem_append.1 hp with h1 | h1
  · exact h p h1
  · rw [List.mem_singleton.1 h1]; exact hq
theorem at?_mem {L : List Pk} {i : Int} {p : Pk} (h : at? L i = some p) : p ∈ L := List.mem_of_getElem? (at?_some h).2.2
theorem at?_len {L : List Pk} {i : Int} {p : Pk} (h : at? L i = some p) : (L.eraseIdx i.toNat).length + 1 = L.length := by
  obtain ⟨_, h1, _⟩ := at?_some h
  rw [List.length_eraseIdx_of_lt h1]
  omega
theorem sendE_cases (N : Int) (L : List Pk) (p : Pk) (hr : L.length ≤ 256) : (sendE N L p = 0 ∧ inN N p.f = true ∧ inN N p.t = true ∧ p.b.length ≤ 1200) ∨ sendE N L p = 2 ∨ sendE N L p = 3 ∨ (sendE N L p = 5 ∧ L.length = 256) := by
  unfold sendE
  split
  · rename_i h
    simp only [Bool.and_eq_true] at h
    split
    · exact .inr (.inr (.inl rfl))
    · split
      · exact .inr (.inr (.inr ⟨rfl, by omega⟩))
      · exact .inl ⟨rfl, h.1, h.2, by omega⟩
  · exact .inr (.inl rfl)
theorem sendL_not {N : Int} {L : List Pk} {A : Nat → Nat → Bool} {p : Pk} (h : ¬ sendE N L p = 0) : sendL N L A p = L := by unfold sendL; rw [if_neg (fun h1 => h h1.1)]

/-- What the switch of NetCounts leaves. -/
def Sw (W : World) (nb : Nat) (x5 x8 : Value) (wx : World) : Prop :=
  ∃ (L : List Pk) (A : Nat → Nat → Bool) (G : Nat → Prop) (ok : Bool), x5 = .int .i64 (if ok then L.length + 1 else L.length : Nat) ∧ x8 = .bool ok ∧ Ac W wx nb 3 L A G

set_option maxRecDepth 100000 in
set_option maxHeartbeats 16000000 in
theorem counts_any (W : World) (x : Value) (l : List At) (hx : AtL W x l) :
    Calls Try.prog 6 #[x] W fun e w' => e = .returned (.bool true) ∧ Below W.heap.size W w' := by
  obtain ⟨A, c, rfl, hlm, hl⟩ := hx
  unfold maxLen at hlm
  have HL := Lib.hid hl
  clear hl
  go_enter Try.func6, Try.ntmps6
  go_wp2_with fail
  refine (new_st 3 W (by omega) (by omega) W.heap.size (Nat.le_refl _)).mono ?_
  rintro e w1 ⟨nb, F, rfl, hS, hn, hf1⟩
  have hO : Ac W w1 nb 3 [] (fun _ _ => false) F := ⟨hS, hf1.none_up, fun p hp => by simp at hp⟩
  clear hS hn hf1
  go_wp2_with fail
  go_loopg [5, 6] l.length (fun g x5 x6 wr => ∃ (k : Nat) (L : List Pk) (A : Nat → Nat → Bool) (G : Nat → Prop), k + g = l.length ∧ x5 = .int .i64 L.length ∧ x6 = .int .i64 k ∧ Ac W wr nb 3 L A G)
  case atStart => exact ⟨0, [], _, F, by omega, rfl, rfl, hO⟩
  case round =>
    clear hO F
    obtain ⟨k, L, A', F, hk, rfl, rfl, hO⟩ := hrel
    have HK := Lib.hid hk
    have hk' : k ≤ l.length := by omega
    clear hk
    by_cases hlt : k < l.length ∧ k < 400
    · obtain ⟨hlt, hlt2⟩ := hlt
      obtain ⟨z, hz⟩ : ∃ z, l[k]? = some z := ⟨_, List.getElem?_eq_getElem hlt⟩
      obtain ⟨b, off, s, rfl, hbl, hi1, hi2, hi3, hc1, hc2, hc3, hat⟩ := HL.out k z hz
      obtain ⟨zk, za, zb, p⟩ := z
      simp only at hi1 hi2 hi3 hc1 hc2 hc3 hat
      have hbyt := hat.b
      have hbyt0 := hbyt
      obtain ⟨sa, sc, rfl, -, -⟩ := hbyt0
      have hpl := hat.l
      unfold maxLen at hpl
      have hat' := hat.keep (Nat.le_refl _) hO.fr
      have q0 := hO.fr.cell hc1 (by simp; omega)
      have q1 := hO.fr.cell hc2 (by simp; omega)
      have q2 := hO.fr.cell hc3 (by simp; omega)
      have q3 := hat'.f
      have q4 : wr.cell? ⟨b, off + k * 6 + 4, none⟩ = _ := hat'.t
      have q5 : wr.cell? ⟨b, off + k * 6 + 5, none⟩ = _ := hat'.c
      have hbw := hat'.b
      clear hat hat' hc1 hc2 hc3
      obtain ⟨w2, hw2⟩ : ∃ w2, w2 = wr.alloc (.cells #[.int .i64 zk, .int .i64 za, .int .i64 zb, .int .i64 p.f, .int .i64 p.t, .slice sa p.b.length sc] 46) := ⟨_, rfl⟩
      have hf2 : Fr (fun _ => False) wr w2 := by rw [hw2]; exact (Fr.refl _ wr).alloc _
      have hb2 : Blk w2 wr.heap.size 46 #[.int .i64 zk, .int .i64 za, .int .i64 zb, .int .i64 p.f, .int .i64 p.t, .slice sa p.b.length sc] := by rw [hw2]; exact Blk.new _ _ _
      have hO2 := hO.up hf2
      have hbw2 := hbw.fr hf2 (fun _ _ h => h)
      have hq : ¬ F wr.heap.size := fun h => by have := hO.st.hi _ h; omega
      have HW2 := Lib.hid hw2
      clear hw2 hf2 hO hbw
      go_upto_region 9 with (fail)
      rw [← HW2.out]
      clear HW2 q0 q1 q2 q3 q4 q5
      obtain ⟨q, hq'⟩ : ∃ q, q = wr.heap.size := ⟨_, rfl⟩
      rw [← hq'] at hb2 hq ⊢
      clear hq'
      have c3 := hb2.cell 3 rfl
      have c4 := hb2.cell 4 rfl
      have c5 := hb2.cell 5 rfl
      by_cases hlong : 3000 < p.b.length
      · go_wp2_with fail
        refine (long_any p _ w2 hbw2).mono ?_
        rintro e w3 ⟨rfl, hf3⟩
        rw [decide_eq_true hlong]
        have hO3 := hO2.up hf3
        clear c3 c4 c5 hO2
        go_wp2_with fail
        refine (known_any w3).mono ?_
        rintro e w4 ⟨rfl, hf4⟩
        go_wp2_with fail
        go_ret
        exact ⟨rfl, (hO3.fr.tr hf4.none_up).below (Nat.le_refl _)⟩
      · go_wp2_with fail
        refine (long_any p _ w2 hbw2).mono ?_
        rintro e w3 ⟨rfl, hf3⟩
        rw [decide_eq_false hlong]
        have hO3 := hO2.up hf3
        have hb3 := hb2.fr hf3 (fun h => h)
        have hbw3 := hbw2.fr hf3 (fun _ _ h => h)
        clear c3 c4 c5 hO2 hb2 hbw2 hf3
        have c0 := hb3.cell 0 rfl
        have c1 := hb3.cell 1 rfl
        have c2 := hb3.cell 2 rfl
        have c3 := hb3.cell 3 rfl
        have c4 := hb3.cell 4 rfl
        have c5 := hb3.cell 5 rfl
        go_upto_block 2 with (fail)
        have hr6 := hO3.st.r.room
        have HO3 := Lib.hid hO3
        clear hO3
        go_cut [5, 8] (fun x5 x8 wx => Sw W nb x5 x8 wx)
        case first =>
          by_cases k01 : zk = 0 ∨ zk = 1
          · have hsend : ∀ wq nq, wq = w3.drewN nq → Ac W wq nb 3 L A' F := fun wq nq h => by rw [h]; exact HO3.out.up ((Fr.refl _ w3).drewN nq)
            rcases sendE_cases 3 L p hr6 with ⟨e0, i1, i2, hpb⟩ | e0 | e0 | ⟨e0, e5⟩
            · have hpa : pB 3 A' p.f p.t = A' p.f.toNat p.t.toNat := by unfold pB; rw [i1, i2]; rfl
              cases ha : A' p.f.toNat p.t.toNat with
              | true =>
                have hl : sendL 3 L A' p = L := by unfold sendL; rw [if_neg (by rw [ha]; simp)]
                rcases k01 with rfl | rfl
                all_goals
                  go_wp2_with fail
                  refine (parted_any nb 3 L A' F p.f p.t w3 HO3.out.st.r).mono ?_
                  rintro e w4 ⟨rfl, nq, hw4⟩
                  rw [hpa, ha]
                  have hO4 := hsend w4 nq hw4
                  have hb4 := hb3.drewN nq
                  rw [← hw4] at hb4
                  have hbw4 : Byt w4 (.slice sa p.b.length sc) p.b := by rw [hw4]; exact hbw3
                  clear hw4 c0 c1 c2 c3 c4 c5
                  have c3 := hb4.cell 3 rfl
                  have c4 := hb4.cell 4 rfl
                  have c5 := hb4.cell 5 rfl
                  have HO4 := Lib.hid hO4
                  clear hO4
                  go_wp2_with fail
                  refine (send_st W.heap.size nb 3 L A' F w4 HO4.out.st HO4.out.fr.size p _ hbw4 (by omega)).mono ?_
                  rintro e w5 ⟨rfl, G, hS, hM⟩
                  rw [hl] at hS
                  rw [e0]
                  have HO5 := Lib.hid (HO4.out.mv hS hM HO4.out.sm)
                  clear hS hM c3 c4 c5
                  go_wp2_with fail
                  go_meet
                  exact ⟨L, A', G, false, rfl, rfl, HO5.out⟩
              | false =>
                have hl : sendL 3 L A' p = L ++ [p] := by unfold sendL; rw [if_pos ⟨e0, ha⟩]
                rcases k01 with rfl | rfl
                all_goals
                  go_wp2_with fail
                  refine (parted_any nb 3 L A' F p.f p.t w3 HO3.out.st.r).mono ?_
                  rintro e w4 ⟨rfl, nq, hw4⟩
                  rw [hpa, ha]
                  have hO4 := hsend w4 nq hw4
                  have hb4 := hb3.drewN nq
                  rw [← hw4] at hb4
                  have hbw4 : Byt w4 (.slice sa p.b.length sc) p.b := by rw [hw4]; exact hbw3
                  clear hw4 c0 c1 c2 c3 c4 c5
                  have c3 := hb4.cell 3 rfl
                  have c4 := hb4.cell 4 rfl
                  have c5 := hb4.cell 5 rfl
                  have HO4 := Lib.hid hO4
                  clear hO4
                  go_wp2_with fail
                  refine (send_st W.heap.size nb 3 L A' F w4 HO4.out.st HO4.out.fr.size p _ hbw4 (by omega)).mono ?_
                  rintro e w5 ⟨rfl, G, hS, hM⟩
                  rw [hl] at hS
                  rw [e0]
                  have HO5 := Lib.hid (HO4.out.mv hS hM (sm_more HO4.out.sm hpb))
                  clear hS hM c3 c4 c5
                  go_wp2_with fail
                  go_meet
                  exact ⟨L ++ [p], A', G, false, by simp, rfl, HO5.out⟩
            all_goals
              have hl : sendL 3 L A' p = L := sendL_not (by rw [e0]; decide)
              rcases k01 with rfl | rfl
              all_goals
                go_wp2_with fail
                refine (parted_any nb 3 L A' F p.f p.t w3 HO3.out.st.r).mono ?_
                rintro e w4 ⟨rfl, nq, hw4⟩
                have hO4 := hsend w4 nq hw4
                have hb4 := hb3.drewN nq
                rw [← hw4] at hb4
                have hbw4 : Byt w4 (.slice sa p.b.length sc) p.b := by rw [hw4]; exact hbw3
                clear hw4 c0 c1 c2 c3 c4 c5
                have c3 := hb4.cell 3 rfl
                have c4 := hb4.cell 4 rfl
                have c5 := hb4.cell 5 rfl
                have HO4 := Lib.hid hO4
                clear hO4
                go_wp2_with fail
                refine (send_st W.heap.size nb 3 L A' F w4 HO4.out.st HO4.out.fr.size p _ hbw4 (by omega)).mono ?_
                rintro e w5 ⟨rfl, G, hS, hM⟩
                rw [hl] at hS
                rw [e0]
                have HO5 := Lib.hid (HO4.out.mv hS hM HO4.out.sm)
                clear hS hM c3 c4 c5
                go_wp2_with fail
                go_meet
                first
                  | exact ⟨L, A', G, false, rfl, rfl, HO5.out⟩
                  | exact ⟨L, A', G, false, by simp [e5], rfl, HO5.out⟩
          · have e0 : (zk == 0) = false := by simp; omega
            have e1 : (zk == 1) = false := by simp; omega
            by_cases k2 : zk = 2
            · subst k2
              cases ha : at? L za with
              | some p' =>
                go_wp2_with fail
                refine (take_st_some W.heap.size nb 3 L A' F w3 HO3.out.st za p' ha).mono ?_
                rintro e w4 ⟨g, cap, rfl, ho, hg, G, hS, hng, hM⟩
                have HO5 := Lib.hid (HO3.out.mv hS hM (sm_erase HO3.out.sm))
                have hln := at?_len ha
                clear hS hM ho hg hng
                go_wp2_with fail
                go_meet
                exact ⟨L.eraseIdx za.toNat, A', G, true, by simp only [if_true]; rw [hln], rfl, HO5.out⟩
              | none =>
                go_wp2_with fail
                refine (take_none nb 3 L A' F za ha w3 HO3.out.st.r).mono ?_
                rintro e w4 ⟨rfl, hf4⟩
                have HO5 := Lib.hid (HO3.out.up hf4)
                clear hf4
                go_wp2_with fail
                go_meet
                exact ⟨L, A', F, false, rfl, rfl, HO5.out⟩
            have e2 : (zk == 2) = false := by simp; omega
            by_cases k3 : zk = 3
            · subst k3
              cases ha : at? L za with
              | some p' =>
                go_wp2_with fail
                refine (drop_st_some W.heap.size nb 3 L A' F w3 HO3.out.st HO3.out.fr.size za p' ha).mono ?_
                rintro e w4 ⟨rfl, G, hS, hM⟩
                have HO5 := Lib.hid (HO3.out.mv hS hM (sm_erase HO3.out.sm))
                have hln := at?_len ha
                clear hS hM
                go_wp2_with fail
                go_meet
                exact ⟨L.eraseIdx za.toNat, A', G, true, by simp only [if_true]; rw [hln], rfl, HO5.out⟩
              | none =>
                go_wp2_with fail
                refine (drop_none nb 3 L A' F za ha w3 HO3.out.st.r).mono ?_
                rintro e w4 ⟨rfl, rfl⟩
                go_wp2_with fail
                go_meet
                exact ⟨L, A', F, false, rfl, rfl, HO3.out⟩
            have e3 : (zk == 3) = false := by simp; omega
            by_cases k4 : zk = 4
            · subst k4
              cases ha : at? L za with
              | some p' =>
                by_cases hfl : L.length < 256
                · go_wp2_with fail
                  refine (twice_st_some W.heap.size nb 3 L A' F w3 HO3.out.st HO3.out.fr.size za p' ha (by have := HO3.out.sm p' (at?_mem ha); omega) hfl).mono ?_
                  rintro e w4 ⟨rfl, G, hS, hM⟩
                  have HO5 := Lib.hid (HO3.out.mv hS hM (sm_more HO3.out.sm (HO3.out.sm p' (at?_mem ha))))
                  clear hS hM
                  go_wp2_with fail
                  go_meet
                  exact ⟨L ++ [p'], A', G, false, by simp, rfl, HO5.out⟩
                · go_wp2_with fail
                  refine (twice_full nb 3 L A' F za (by omega) w3 HO3.out.st.r).mono ?_
                  rintro e w4 ⟨rfl, rfl⟩
                  go_wp2_with fail
                  go_meet
                  exact ⟨L, A', F, false, rfl, rfl, HO3.out⟩
              | none =>
                go_wp2_with fail
                refine (twice_none nb 3 L A' F za ha w3 HO3.out.st.r).mono ?_
                rintro e w4 ⟨rfl, rfl⟩
                go_wp2_with fail
                go_meet
                exact ⟨L, A', F, false, rfl, rfl, HO3.out⟩
            have e4 : (zk == 4) = false := by simp; omega
            by_cases k5 : zk = 5
            · subst k5
              cases ha : at? L za with
              | some p' =>
                go_wp2_with fail
                refine (back_st_some W.heap.size nb 3 L A' F w3 HO3.out.st HO3.out.fr.size za p' ha).mono ?_
                rintro e w4 ⟨rfl, G, hS, hM⟩
                have HO5 := Lib.hid (HO3.out.mv hS hM (sm_more (sm_erase HO3.out.sm) (HO3.out.sm p' (at?_mem ha))))
                have hln := at?_len ha
                clear hS hM
                go_wp2_with fail
                go_meet
                exact ⟨L.eraseIdx za.toNat ++ [p'], A', G, false, by simp only [if_false, Bool.false_eq_true]; rw [List.length_append, List.length_singleton, hln], rfl, HO5.out⟩
              | none =>
                go_wp2_with fail
                refine (back_none nb 3 L A' F za ha w3 HO3.out.st.r).mono ?_
                rintro e w4 ⟨rfl, rfl⟩
                go_wp2_with fail
                go_meet
                exact ⟨L, A', F, false, rfl, rfl, HO3.out⟩
            have e5 : (zk == 5) = false := by simp; omega
            by_cases k7 : zk = 7
            · subst k7
              go_wp2_with fail
              refine (part_st W.heap.size nb 3 L A' F w3 HO3.out.st HO3.out.fr.size za zb).mono ?_
              rintro e w4 ⟨rfl, G, hS, hM⟩
              have HO5 := Lib.hid (HO3.out.mv hS hM HO3.out.sm)
              clear hS hM
              go_wp2_with fail
              go_meet
              exact ⟨L, _, G, false, rfl, rfl, HO5.out⟩
            have e7 : (zk == 7) = false := by simp; omega
            by_cases k8 : zk = 8
            · subst k8
              go_wp2_with fail
              refine (join_st W.heap.size nb 3 L A' F w3 HO3.out.st HO3.out.fr.size za zb).mono ?_
              rintro e w4 ⟨rfl, G, hS, hM⟩
              have HO5 := Lib.hid (HO3.out.mv hS hM HO3.out.sm)
              clear hS hM
              go_wp2_with fail
              go_meet
              exact ⟨L, _, G, false, rfl, rfl, HO5.out⟩
            have e8 : (zk == 8) = false := by simp; omega
            go_wp2_with fail
            go_meet
            exact ⟨L, A', F, false, rfl, rfl, HO3.out⟩
        case rest =>
          obtain ⟨L2, A2, G, ok, rfl, rfl, hO⟩ := hcut
          obtain ⟨wn, hwn⟩ : ∃ wn, wn = wc := ⟨_, rfl⟩
          rw [← hwn] at hO ⊢
          clear hwn
          have hr := hO.st.r.room
          have HO := Lib.hid hO
          clear hO
          cases ok with
          | true =>
            simp only [if_true]
            go_wp2_with fail
            refine (len_any nb 3 L2 A2 G wn HO.out.st.r).mono ?_
            rintro e w5 ⟨rfl, rfl⟩
            go_wp2_with fail
            go_roundg (l.length - (k + 1))
            case measure => have := HK.out; omega
            case rel => exact ⟨k + 1, L2, A2, G, by omega, by go_num, by go_num, HO.out⟩
          | false =>
            simp only [if_false, Bool.false_eq_true]
            go_wp2_with fail
            refine (len_any nb 3 L2 A2 G wn HO.out.st.r).mono ?_
            rintro e w5 ⟨rfl, rfl⟩
            go_wp2_with fail
            go_roundg (l.length - (k + 1))
            case measure => have := HK.out; omega
            case rel => exact ⟨k + 1, L2, A2, G, by omega, rfl, by go_num, HO.out⟩
    · go_wp2_with fail
      all_goals
        refine (known_any wr).mono ?_
        rintro e w4 ⟨rfl, hf4⟩
        go_wp2_with fail
        go_ret
        exact ⟨rfl, (hO.fr.tr hf4.none_up).below (Nat.le_refl _)⟩
end Go.Proofs.Ytemjgllijlaejaa
