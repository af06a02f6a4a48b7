/- The walk of NetOrder. -/
import Derived.Test.YtemjgllijlaejaaNetJ
namespace Go.Proofs.Ytemjgllijlaejaa
open Go.RowKit

/-- A row of packets of the law's own, their bodies what came in. -/
structure Sent (W w : World) (v : Value) (ps : List Pk) (vs : List Value) : Prop where
  row : w.ownsRow W.heap.size 29 3 v ps.length (flat ps vs)
  len : vs.length = ps.length
  byt : ∀ (i : Nat) (p : Pk) (u : Value), ps[i]? = some p → vs[i]? = some u → Byt W u p.b
theorem Sent.fr {W w w' : World} {v : Value} {ps : List Pk} {vs : List Value} {X : Nat → Prop} (h : Sent W w v ps vs) (hf : Fr X w w') (hx : ∀ k, v.ownBlock = some k → ¬ X k) : Sent W w' v ps vs :=
  ⟨own_fr h.row hf hx, h.len, h.byt⟩
theorem Sent.form {W w : World} {v : Value} {ps : List Pk} {vs : List Value} (h : Sent W w v ps vs) : ∃ a c, v = .slice a ps.length c := by
  rcases own_form h.row with ⟨rfl, hL, _⟩ | ⟨g, cap, cur, rfl, _⟩
  · exact ⟨none, 0, by rw [hL]⟩
  · exact ⟨_, _, rfl⟩
theorem Sent.lt {W w : World} {v : Value} {ps : List Pk} {vs : List Value} (h : Sent W w v ps vs) : ∀ k, v.ownBlock = some k → W.heap.size ≤ k ∧ k < w.heap.size := fun k hk => h.row.lt k hk
theorem Sent.at {W w : World} {v : Value} {ps : List Pk} {vs : List Value} (h : Sent W w v ps vs) {j : Nat} {p : Pk} (hp : ps[j]? = some p) :
    ∃ g lc u, v = .slice (some ⟨g, 0, none⟩) ps.length lc ∧ Byt W u p.b ∧ w.cell? ⟨g, j * 3, none⟩ = some (.int .i64 p.f) ∧ w.cell? ⟨g, j * 3 + 1, none⟩ = some (.int .i64 p.t) ∧ w.cell? ⟨g, j * 3 + 2, none⟩ = some u := by
  have hj := (List.getElem?_eq_some_iff.1 hp).1
  have hjv : j < vs.length := by rw [h.len]; exact hj
  obtain ⟨e1, e2, e3⟩ := flat_get ps vs j p vs[j] hp (List.getElem?_eq_getElem hjv)
  have hrow := h.row
  rcases own_form hrow with ⟨rfl, hL, _⟩ | ⟨g, cap, cur, rfl, _⟩
  · omega
  · exact ⟨g, cap, vs[j], rfl, h.byt j p _ hp (List.getElem?_eq_getElem hjv), own_cell (own_base hrow) _ e1, own_cell (own_base hrow) _ e2, own_cell (own_base hrow) _ e3⟩
/-- One more. -/
theorem Sent.more {W w w' : World} {v v' : Value} {ps : List Pk} {vs : List Value} {p : Pk} {s : Value} (h : Sent W w v ps vs) (hs : Byt W s p.b) (ha : Appended W.heap.size 29 3 w v ps.length 1 (flat ps vs) [.int .i64 p.f, .int .i64 p.t, s] v' w') : Sent W w' v' (ps ++ [p]) (vs ++ [s]) := by
  refine ⟨?_, by simp [h.len], fun i q u hq hu => ?_⟩
  · rw [List.length_append, List.length_singleton, flat_append _ _ _ _ h.len]
    exact ha.1
  · by_cases hi : i < ps.length
    · rw [List.getElem?_append_left hi] at hq
      rw [List.getElem?_append_left (by rw [h.len]; exact hi)] at hu
      exact h.byt i q u hq hu
    · have hi' : i = ps.length := by
        have := (List.getElem?_eq_some_iff.1 hq).1
        simp at this; omega
      subst hi'
      rw [List.getElem?_append_right (Nat.le_refl _)] at hq
      rw [List.getElem?_append_right (by rw [h.len]; exact Nat.le_refl _), h.len] at hu
      simp at hq hu
      subst hq hu
      exact hs

/-- The net, and what was sent. -/
structure Or (W w : World) (nb : Nat) (N : Int) (v : Value) (ps : List Pk) (vs : List Value) (L : List Pk) (A : Nat → Nat → Bool) (F : Nat → Prop) : Prop where
  st : St W.heap.size w nb N L A F
  sent : Sent W w v ps vs
  nf : ∀ k, v.ownBlock = some k → ¬ F k
  fr : Fr (fun k => W.heap.size ≤ k) W w
theorem Or.mv {W w w' : World} {nb : Nat} {N : Int} {v : Value} {ps : List Pk} {vs : List Value} {L L' : List Pk} {A A' : Nat → Nat → Bool} {F G : Nat → Prop} (h : Or W w nb N v ps vs L A F) (hS : St W.heap.size w' nb N L' A' G) (m : Mv F w G w') : Or W w' nb N v ps vs L' A' G :=
  ⟨hS, h.sent.fr m.fr h.nf, fun k hk hg => by
    rcases m.new k hg with h1 | h1
    · exact h.nf k hk h1
    · have := (h.sent.lt k hk).2; omega, h.fr.tr (m.fr.mono fun k _ hk => h.st.lo k hk)⟩
/-- Something new lies there. -/
theorem Or.up {W w w' : World} {nb : Nat} {N : Int} {v : Value} {ps : List Pk} {vs : List Value} {L : List Pk} {A : Nat → Nat → Bool} {F : Nat → Prop} (h : Or W w nb N v ps vs L A F) (hf : Fr (fun _ => False) w w') : Or W w' nb N v ps vs L A F :=
  ⟨h.st.fr hf (fun _ _ h => h), h.sent.fr hf (fun _ _ h => h), h.nf, h.fr.tr hf.none_up⟩

theorem Or.more {W w w' : World} {nb : Nat} {N : Int} {v v' : Value} {ps : List Pk} {vs : List Value} {L : List Pk} {A : Nat → Nat → Bool} {F : Nat → Prop} {p : Pk} {s : Value} (h : Or W w nb N v ps vs L A F) (hs : Byt W s p.b)
    (ha : Appended W.heap.size 29 3 w v ps.length 1 (flat ps vs) [.int .i64 p.f, .int .i64 p.t, s] v' w') : Or W w' nb N v' (ps ++ [p]) (vs ++ [s]) L A F := by
  have hf : Fr (fun k => v.ownBlock = some k) w w' := ha.fr (Fr.refl _ w) (fun k hk _ => hk)
  refine ⟨h.st.fr hf (fun k hk hv => h.nf k hv hk), h.sent.more hs ha, fun k hk hF => ?_, h.fr.tr (hf.mono fun k _ hk => (h.sent.lt k hk).1)⟩
  rcases ha.2.2 with h3 | h3
  · rw [h3] at hk; exact h.nf k hk hF
  · rw [h3] at hk
    injection hk with hk
    subst hk
    have := h.st.hi _ hF
    omega

set_option maxRecDepth 100000 in
set_option maxHeartbeats 8000000 in
theorem order_any (W : World) (x : Value) (l : List Pk) (hx : PkL W x l) :
    Calls Try.prog 3 #[x] W fun e w' => e = .returned (.bool true) ∧ Below W.heap.size W w' := by
  obtain ⟨i0, hi0, hz0, hz1, hz2⟩ := info_parts pkinfo
  obtain ⟨A, c, rfl, hlm, hl⟩ := hx
  unfold maxLen at hlm
  have HL := Lib.hid hl
  clear hl
  go_enter Try.func3, Try.ntmps3
  go_wp2_with fail
  refine (new_st 12 W (by omega) (by omega) W.heap.size (Nat.le_refl _)).mono ?_
  rintro e w1 ⟨nb, F, rfl, hS, hn, hf1⟩
  have hO : Or W w1 nb 12 (.slice none 0 0) [] [] [] (fun _ _ => false) F := by
    refine ⟨hS, ⟨?_, rfl, fun i p u hp _ => by simp at hp⟩, fun k hk => by simp [Value.ownBlock] at hk, hf1.none_up⟩
    exact World.ownsRow_nil _ _ _ _
  clear hS hn hf1
  go_wp2_with fail
  go_loopg [5, 6] l.length (fun g x5 x6 wr => ∃ (k : Nat) (va : Option Addr) (vc : Nat) (vs : List Value) (L : List Pk) (G : Nat → Prop), k + g = l.length ∧ x5 = .slice va L.length vc ∧ x6 = .int .i64 k ∧ L.length ≤ k ∧ Or W wr nb 12 (.slice va L.length vc) L vs L (fun _ _ => false) G)
  case atStart => exact ⟨0, none, 0, [], [], F, by omega, rfl, rfl, Nat.le_refl _, hO⟩
  case round =>
    clear hO F
    obtain ⟨k, va, vc, vs, L, F, hk, rfl, rfl, hLk, hO⟩ := hrel
    have HK := Lib.hid hk
    have hk' : k ≤ l.length := by omega
    clear hk
    by_cases hlt : k < l.length ∧ k < 256
    · obtain ⟨hlt, hlt2⟩ := hlt
      obtain ⟨p, hp⟩ : ∃ p, l[k]? = some p := ⟨_, List.getElem?_eq_getElem hlt⟩
      obtain ⟨b, off, s, rfl, hbl, hat⟩ := HL.out k p hp
      have hbyt := hat.b
      have hbyt0 := hbyt
      obtain ⟨sa, sc, rfl, -, -⟩ := hbyt0
      have hpl := hat.l
      unfold maxLen at hpl
      have hat' := hat.keep (Nat.le_refl _) hO.fr
      have q0 := hat'.f
      have q1 := hat'.t
      have q2 := hat'.c
      have hbw := hat'.b
      clear hat hat'
      obtain ⟨w2, hw2⟩ : ∃ w2, w2 = wr.alloc (.cells #[.int .i64 p.f, .int .i64 p.t, .slice sa p.b.length sc] 29) := ⟨_, rfl⟩
      have hf2 : Fr (fun _ => False) wr w2 := by rw [hw2]; exact (Fr.refl _ wr).alloc _
      have hb2 : Blk w2 wr.heap.size 29 #[.int .i64 p.f, .int .i64 p.t, .slice sa p.b.length sc] := by rw [hw2]; exact Blk.new _ _ _
      have hO2 := hO.up hf2
      have hbw2 := hbw.fr hf2 (fun _ _ h => h)
      have hq : ¬ F wr.heap.size := fun h => by have := hO.st.hi _ h; omega
      have hqv : ∀ k, (Value.slice va L.length vc).ownBlock = some k → k ≠ wr.heap.size := fun k hk => by have := (hO.sent.lt k hk).2; omega
      have HW2 := Lib.hid hw2
      have hqW := hO.fr.size
      clear hw2 hf2 hO hbw
      go_upto_region 9 with (fail)
      rw [← HW2.out]
      clear HW2 q0 q1 q2
      obtain ⟨q, hq'⟩ : ∃ q, q = wr.heap.size := ⟨_, rfl⟩
      rw [← hq'] at hb2 hq hqv hqW ⊢
      clear hq'
      have c0 := hb2.cell 0 rfl
      have c1 := hb2.cell 1 rfl
      have c2 := hb2.cell 2 rfl
      by_cases hlong : 3000 < p.b.length
      · go_wp2_with fail
        refine (long_any p _ w2 hbw2).mono ?_
        rintro e w3 ⟨rfl, hf3⟩
        rw [decide_eq_true hlong]
        have hO3 := hO2.up hf3
        clear c0 c1 c2 hO2
        go_wp2_with fail
        refine (known_any w3).mono ?_
        rintro e w4 ⟨rfl, hf4⟩
        go_wp2_with fail
        go_ret
        exact ⟨rfl, (hO3.fr.tr hf4.none_up).below (Nat.le_refl _)⟩
      · go_wp2_with fail
        refine (long_any p _ w2 hbw2).mono ?_
        rintro e w3 ⟨rfl, hf3⟩
        rw [decide_eq_false hlong]
        have hO3 := hO2.up hf3
        have hb3 := hb2.fr hf3 (fun h => h)
        have hbw3 := hbw2.fr hf3 (fun _ _ h => h)
        clear c0 c1 c2 hO2 hb2 hbw2 hf3
        have c0 := hb3.cell 0 rfl
        have c1 := hb3.cell 1 rfl
        have c2 := hb3.cell 2 rfl
        go_upto_region 11 with (fail)
        go_cut [8] (fun x8 wx => x8 = .bool (inN 12 p.f && inN 12 p.t) ∧ w3 = wx)
        case first =>
          by_cases h1 : 0 ≤ p.f
          · by_cases h2 : p.f < 12
            · by_cases h3 : 0 ≤ p.t
              · by_cases h4 : p.t < 12
                · go_wp2_with fail
                  go_meet
                  exact ⟨by simp [inN, h1, h2, h3, h4], rfl⟩
                · go_wp2_with fail
                  go_meet
                  exact ⟨by simp [inN, h1, h2, h3, h4], rfl⟩
              · go_wp2_with fail
                go_meet
                exact ⟨by simp [inN, h1, h2] <;> omega, rfl⟩
            · go_wp2_with fail
              go_meet
              exact ⟨by simp [inN, h1] <;> omega, rfl⟩
          · go_wp2_with fail
            go_meet
            exact ⟨by simp [inN] <;> omega, rfl⟩
        case rest =>
          obtain ⟨rfl, hw⟩ := hcut
          obtain ⟨wn, hwn⟩ : ∃ wn, wn = wc := ⟨_, rfl⟩
          rw [← hwn] at hw ⊢
          clear hwn
          subst hw
          have hL6 : L.length < 256 := by omega
          obtain ⟨R, hR⟩ : ∃ R, R = (inN 12 p.f && inN 12 p.t) := ⟨_, rfl⟩
          rw [← hR]
          have HR := Lib.hid hR
          have HO3 := Lib.hid hO3
          clear hO3 hR
          go_wp2_with fail
          refine (send_st W.heap.size nb 12 _ _ F _ HO3.out.st HO3.out.fr.size p _ hbw3 (by omega)).mono ?_
          rintro e w4 ⟨rfl, G, hS, hM⟩
          have hO4 := HO3.out.mv hS hM
          have hb4 := hb3.fr hM.fr hq
          have hq4 : ¬ G q := fun h => by
            rcases hM.new q h with h1 | h1
            · exact hq h1
            · have := hb3.lt; omega
          clear c0 c1 c2 HO3 hS hM hb3 hbw3 hq
          have c0 := hb4.cell 0 rfl
          have c1 := hb4.cell 1 rfl
          have c2 := hb4.cell 2 rfl
          cases R with
          | false =>
            have e0 : sendE 12 L p = 2 := by unfold sendE; rw [← HR.out]; rfl
            have e1 : sendL 12 L (fun _ _ => false) p = L := by unfold sendL; rw [e0, if_neg (by omega)]
            rw [e1] at hO4
            rw [e0]
            have HO4 := Lib.hid hO4
            clear hO4 e0 e1 HR
            go_wp2_with fail
            go_roundg (l.length - (k + 1))
            case measure => have := HK.out; omega
            case rel => exact ⟨k + 1, va, vc, vs, L, G, by omega, rfl, by go_num, by omega, HO4.out⟩
          | true =>
            by_cases hb : 1200 < p.b.length
            · have e0 : sendE 12 L p = 3 := by unfold sendE; rw [← HR.out, if_pos hb]; rfl
              have e1 : sendL 12 L (fun _ _ => false) p = L := by unfold sendL; rw [e0, if_neg (by omega)]
              rw [e1] at hO4
              rw [e0]
              have HO4 := Lib.hid hO4
              have hb' : ¬ (p.b.length : Int) ≤ 1200 := by omega
              clear hO4 e0 e1 HR
              go_wp2_with fail
              go_roundg (l.length - (k + 1))
              case measure => have := HK.out; omega
              case rel => exact ⟨k + 1, va, vc, vs, L, G, by omega, rfl, by go_num, by omega, HO4.out⟩
            · have e0 : sendE 12 L p = 0 := by unfold sendE; rw [← HR.out, if_neg hb, if_neg (by omega : ¬ 256 ≤ L.length)]; rfl
              have e1 : sendL 12 L (fun _ _ => false) p = L ++ [p] := sendL_0 e0
              rw [e1] at hO4
              rw [e0]
              have HO4 := Lib.hid hO4
              have hb' : (p.b.length : Int) ≤ 1200 := by omega
              clear hO4 e0 e1 HR
              obtain ⟨w5, hw5⟩ : ∃ w5, w5 = w4.alloc (.cells #[.int .i64 p.f, .int .i64 p.t, .slice sa p.b.length sc] 29) := ⟨_, rfl⟩
              have hf5 : Fr (fun _ => False) w4 w5 := by rw [hw5]; exact (Fr.refl _ w4).alloc _
              have hO5 := HO4.out.up hf5
              have hn5 : ∀ j u, [Value.int .i64 p.f, .int .i64 p.t, .slice sa p.b.length sc][j]? = some u → w5.cell? (Addr.add ⟨w4.heap.size, 0, none⟩ j) = some u := by
                rw [hw5]; exact World.news_of_block (cs := #[.int .i64 p.f, .int .i64 p.t, .slice sa p.b.length sc]) (t := 29) (fr := (0, 0)) (heap_alloc_new w4 _)
              have HW5 := Lib.hid hw5
              have HO5 := Lib.hid hO5
              have hrow := hO5.sent.row
              have hz5 := hO5.fr.size
              clear hw5 hO5 hf5 HO4
              go_wp2_with (first
                | (at_builtin
                   rw [← HW5.out]
                   clear HW5
                   refine wpList_bi2 rfl .append _ _ _ _ _ rfl rfl rfl _ (ap_cells (base := W.heap.size) Try.underlying22 hi0 hz0 hz1 hz2 rfl (by omega) hrow ⟨w4.heap.size, 0, none⟩ 1 1 [.int .i64 p.f, .int .i64 p.t, .slice sa p.b.length sc] rfl hn5 (by simp [Value.oneCell']) (by unfold maxLen; omega) (by omega) hz5) ?_
                   rintro v' w6 hap))
              have hO6 := HO5.out.more hbyt hap
              obtain ⟨va', vc', rfl⟩ := hO6.sent.form
              go_roundg (l.length - (k + 1))
              case measure => have := HK.out; omega
              case rel => exact ⟨k + 1, va', vc', _, L ++ [p], G, by omega, rfl, by go_num, by simp; omega, hO6⟩
    · go_wp2_with fail
      all_goals
        go_loopg [10] L.length (fun g x10 wq => ∃ (j : Nat) (G : Nat → Prop), j + g = L.length ∧ x10 = .int .i64 j ∧ Or W wq nb 12 (.slice va L.length vc) L vs (L.drop j) (fun _ _ => false) G)
        case atStart => exact ⟨0, F, by omega, rfl, by simpa using hO⟩
        case round =>
          clear hO F
          obtain ⟨j, F, hj, rfl, hO⟩ := hrel
          have HJ := Lib.hid hj
          have hj' : j ≤ L.length := by omega
          have hr6 : L.length ≤ 9223372036854775807 := by omega
          clear hj hLk
          by_cases hjl : j < L.length
          · obtain ⟨p, hp⟩ : ∃ p, L[j]? = some p := ⟨_, List.getElem?_eq_getElem hjl⟩
            have hat : at? (L.drop j) 0 = some p := by unfold at?; rw [if_pos (by omega)]; simpa using hp
            obtain ⟨gr, lc, u, hv, hbu, d0, d1, d2⟩ := hO.sent.at hp
            injection hv with hv1 _ hv2
            subst hv1 hv2
            clear d0 d1 d2 hbu
            have hjl' : (j : Int) < (L.length : Int) := by omega
            go_wp2_with fail
            refine (take_st_some W.heap.size nb 12 _ _ F _ hO.st 0 p hat).mono ?_
            rintro e w2 ⟨g, cap, rfl, ho, hg, G, hS, hng, hM⟩
            have hO2 := hO.mv hS hM
            rw [show (L.drop j).eraseIdx (0 : Int).toNat = L.drop (j + 1) by simp] at hO2
            clear hS hM hO hg hng F
            obtain ⟨w3, hw3⟩ : ∃ w3, w3 = w2.alloc (.cells #[.int .i64 p.f, .int .i64 p.t, .slice (some ⟨g, 0, none⟩) p.b.length cap] 29) := ⟨_, rfl⟩
            have hf3 : Fr (fun _ => False) w2 w3 := by rw [hw3]; exact (Fr.refl _ w2).alloc _
            have hb3 : Blk w3 w2.heap.size 29 #[.int .i64 p.f, .int .i64 p.t, .slice (some ⟨g, 0, none⟩) p.b.length cap] := by rw [hw3]; exact Blk.new _ _ _
            have hO3 := hO2.up hf3
            have hy1 := Byt.of_own (own_fr ho hf3 (fun _ _ h => h))
            obtain ⟨gr', lc', u', hv, hbu, d0, d1, d2⟩ := hO3.sent.at hp
            injection hv with hv1 _ hv2
            injection hv1 with hv1
            injection hv1 with hv1 _
            subst hv1 hv2
            have hy2 := hbu.keep (Nat.le_refl _) hO3.fr
            have c0 := hb3.cell 0 rfl
            have c1 := hb3.cell 1 rfl
            have c2 := hb3.cell 2 rfl
            have HW3 := Lib.hid hw3
            have HO3 := Lib.hid hO3
            clear hw3 hO2 ho hf3 hb3 hO3 hbu
            go_upto_region 21 with (fail)
            rw [← HW3.out]
            clear HW3
            go_region_law (first
              | (go_simp
                 go_at_call 14
                 refine (same_any p p _ u' _ hy1.drew hy2.drew).mono ?_
                 rintro e w4 ⟨rfl, hf4⟩
                 rw [sameB_refl]))
            all_goals
              have hO4 := HO3.out.up hf4.of_drew
              clear d0 d1 d2 c0 c1 c2 hy1 hy2 HO3 hf4
              go_wp2_with fail
              go_roundg (L.length - (j + 1))
              case measure => have := HJ.out; omega
              case rel => exact ⟨j + 1, G, by omega, by go_num, hO4⟩
          · obtain rfl : j = L.length := by omega
            rw [List.drop_length] at hO
            go_wp2_with fail
            refine (take_none nb 12 [] _ F 0 (by rfl) wr hO.st.r).mono ?_
            rintro e w2 ⟨rfl, hf2⟩
            obtain ⟨w3, hw3⟩ : ∃ w3, w3 = w2.alloc (.cells #[.int .i64 0, .int .i64 0, .slice none 0 0] 29) := ⟨_, rfl⟩
            have hf3 : Fr (fun _ => False) w2 w3 := by rw [hw3]; exact (Fr.refl _ w2).alloc _
            have hO3 := hO.up (hf2.tr hf3)
            have HW3 := Lib.hid hw3
            clear hw3 hO hf2 hf3
            go_upto_region 24 with (fail)
            rw [← HW3.out]
            clear HW3
            go_wp2_with fail
            refine (len_any nb 12 [] _ F w3 hO3.st.r).mono ?_
            rintro e w4 ⟨rfl, rfl⟩
            go_wp2_with fail
            refine (known_any w3).mono ?_
            rintro e w4 ⟨rfl, hf4⟩
            go_wp2_with fail
            go_ret
            exact ⟨rfl, (hO3.fr.tr hf4.none_up).below (Nat.le_refl _)⟩
end Go.Proofs.Ytemjgllijlaejaa
