/- The walk of NetParts. -/
import Derived.Test.YtemjgllijlaejaaNetK
namespace Go.Proofs.Ytemjgllijlaejaa
open Go.RowKit

def cutB (a b : Int) (p : Pk) : Bool := (p.f == a && p.t == b) || (p.f == b && p.t == a)
theorem inN_iff {N a : Int} : inN N a = true ↔ 0 ≤ a ∧ a < N := by simp [inN]
theorem sendE_in {N : Int} {L : List Pk} {p : Pk} (h : sendE N L p = 0) : inN N p.f = true ∧ inN N p.t = true := by
  unfold sendE at h
  split at h
  · rename_i h1
    simpa using h1
  · omega
theorem setP_at {N a b f t : Int} (hf : inN N f = true) (ht : inN N t = true) : setP N a b (fun _ _ => false) true f.toNat t.toNat = (pairOk N a b && ((f == a && t == b) || (f == b && t == a))) := by
  unfold setP
  cases hp : pairOk N a b with
  | false => rfl
  | true =>
    simp only [pairOk, Bool.and_eq_true, decide_eq_true_eq] at hp
    obtain ⟨⟨ha, hb⟩, _⟩ := hp
    rw [inN_iff] at hf ht ha hb
    simp only [if_true, setA, Bool.true_and]
    rw [Bool.eq_iff_iff]
    simp only [Bool.or_eq_true, Bool.and_eq_true, beq_iff_eq]
    split
    · simp only [true_iff]; omega
    · simp only [Bool.false_eq_true, false_iff]; omega
theorem setP_off {N a b : Int} : setP N b a (setP N a b (fun _ _ => false) true) false = fun _ _ => false := by
  have hs : pairOk N b a = pairOk N a b := by
    unfold pairOk
    rw [Bool.eq_iff_iff]
    simp only [Bool.and_eq_true, decide_eq_true_eq]
    constructor <;> rintro ⟨⟨h1, h2⟩, h3⟩ <;> exact ⟨⟨h2, h1⟩, Ne.symm h3⟩
  unfold setP
  rw [hs]
  cases pairOk N a b with
  | false => rfl
  | true =>
    funext i j
    simp only [if_true, setA]
    split
    · rfl
    · rename_i h
      rw [if_neg (by rintro (⟨h1, h2⟩ | ⟨h1, h2⟩); exact h (.inr ⟨h1, h2⟩); exact h (.inl ⟨h1, h2⟩))]
theorem setE_sym (N a b : Int) : setE N b a = setE N a b := by
  unfold setE pairOk
  congr 1
  simp only [Bool.and_eq_true, decide_eq_true_eq, eq_iff_iff]
  constructor <;> rintro ⟨⟨h1, h2⟩, h3⟩ <;> exact ⟨⟨h2, h1⟩, Ne.symm h3⟩
theorem setE_R (N a b : Int) : (setE N a b == 0) = pairOk N a b := by unfold setE; cases pairOk N a b <;> rfl

set_option maxRecDepth 100000 in
set_option maxHeartbeats 16000000 in
theorem parts_any (W : World) (a b : Int) (x : Value) (l : List Pk) (hx : PkL W x l) :
    Calls Try.prog 4 #[.int .i64 a, .int .i64 b, x] W fun e w' => e = .returned (.bool true) ∧ Below W.heap.size W w' := by
  have kc := fun (w : World) (C : Array Value) (n c : Nat) => Lib.run_convert_bytes_const (P := Try.prog) w 27 5 C n c Try.underlying27 Try.underlying5
  obtain ⟨i0, hi0, hz0, hz1, hz2⟩ := info_parts pkinfo
  obtain ⟨A, c, rfl, hlm, hl⟩ := hx
  unfold maxLen at hlm
  have HL := Lib.hid hl
  clear hl
  go_enter Try.func4, Try.ntmps4
  go_wp2_with fail
  refine (new_st 4 W (by omega) (by omega) W.heap.size (Nat.le_refl _)).mono ?_
  rintro e w0 ⟨nb, F0, rfl, hS, hn, hf1⟩
  have hO0 : Or W w0 nb 4 (.slice none 0 0) [] [] [] (fun _ _ => false) F0 := by
    refine ⟨hS, ⟨?_, rfl, fun i p u hp _ => by simp at hp⟩, fun k hk => by simp [Value.ownBlock] at hk, hf1.none_up⟩
    exact World.ownsRow_nil _ _ _ _
  clear hS hn hf1
  go_wp2_with fail
  refine (part_st W.heap.size nb 4 _ _ F0 _ hO0.st hO0.fr.size a b).mono ?_
  rintro e w1 ⟨rfl, F, hS, hM⟩
  have hO := hO0.mv hS hM
  clear hS hM hO0
  go_upto_region 5 with (fail)
  go_cut [10] (fun x10 wx => x10 = .bool (pairOk 4 a b) ∧ w1 = wx)
  case first =>
    by_cases h1 : 0 ≤ a
    · by_cases h2 : a < 4
      · by_cases h3 : 0 ≤ b
        · by_cases h4 : b < 4
          · cases h5 : (a != b) with
            | true =>
              go_wp2_with fail
              go_meet
              have : ¬ a = b := by simpa using h5
              exact ⟨by simp [pairOk, inN, h1, h2, h3, h4, this], rfl⟩
            | false =>
              go_wp2_with fail
              go_meet
              have : a = b := by simpa using h5
              exact ⟨by simp [pairOk, this], rfl⟩
          · go_wp2_with fail
            go_meet
            exact ⟨by simp [pairOk, inN, h1, h2, h3] <;> omega, rfl⟩
        · go_wp2_with fail
          go_meet
          exact ⟨by simp [pairOk, inN, h1, h2] <;> omega, rfl⟩
      · go_wp2_with fail
        go_meet
        exact ⟨by simp [pairOk, inN, h1] <;> omega, rfl⟩
    · go_wp2_with fail
      go_meet
      exact ⟨by simp [pairOk, inN] <;> omega, rfl⟩
  case rest =>
    obtain ⟨rfl, hw⟩ := hcut
    obtain ⟨wn, hwn⟩ : ∃ wn, wn = wc := ⟨_, rfl⟩
    rw [← hwn] at hw ⊢
    clear hwn
    subst hw
    obtain ⟨A1, hA1⟩ : ∃ A1, A1 = setP 4 a b (fun _ _ => false) true := ⟨_, rfl⟩
    have HA1 := Lib.hid hA1
    rw [← hA1] at hO
    clear hA1
    have hre := setE_R 4 a b
    have hre2 := setE_sym 4 a b
    obtain ⟨E, hE⟩ : ∃ E, E = setE 4 a b := ⟨_, rfl⟩
    obtain ⟨R, hR⟩ : ∃ R, R = pairOk 4 a b := ⟨_, rfl⟩
    rw [← hE] at hre hre2 ⊢
    rw [← hR] at hre ⊢
    have HRE2 := Lib.hid hre2
    have HRe := Lib.hid hre
    have HR := Lib.hid hR
    have hne : (!R == (E == 0)) = false := by rw [hre]; cases R <;> rfl
    have HO := Lib.hid hO
    clear hre hre2 hE hR hO
    go_wp2_with fail
    go_loopg [11, 12] l.length (fun g x5 x6 wr => ∃ (k : Nat) (va : Option Addr) (vc : Nat) (vs : List Value) (L : List Pk) (G : Nat → Prop), k + g = l.length ∧ x5 = .slice va L.length vc ∧ x6 = .int .i64 k ∧ L.length ≤ k ∧ Or W wr nb 4 (.slice va L.length vc) L vs L A1 G)
    case atStart => exact ⟨0, none, 0, [], [], F, by omega, rfl, rfl, Nat.le_refl _, HO.out⟩
    case round =>
      clear HO F
      obtain ⟨k, va, vc, vs, L, F, hk, rfl, rfl, hLk, hO⟩ := hrel
      have HK := Lib.hid hk
      have hk' : k ≤ l.length := by omega
      clear hk
      by_cases hlt : k < l.length ∧ k < 100
      · obtain ⟨hlt, hlt2⟩ := hlt
        obtain ⟨p, hp⟩ : ∃ p, l[k]? = some p := ⟨_, List.getElem?_eq_getElem hlt⟩
        obtain ⟨bb, off, s, rfl, hbl, hat⟩ := HL.out k p hp
        have hbyt := hat.b
        have hbyt0 := hbyt
        obtain ⟨sa, sc, rfl, -, -⟩ := hbyt0
        have hpl := hat.l
        unfold maxLen at hpl
        have hat' := hat.keep (Nat.le_refl _) hO.fr
        have q0 := hat'.f
        have q1 := hat'.t
        have q2 := hat'.c
        have hbw := hat'.b
        clear hat hat'
        obtain ⟨w2, hw2⟩ : ∃ w2, w2 = wr.alloc (.cells #[.int .i64 p.f, .int .i64 p.t, .slice sa p.b.length sc] 29) := ⟨_, rfl⟩
        have hf2 : Fr (fun _ => False) wr w2 := by rw [hw2]; exact (Fr.refl _ wr).alloc _
        have hb2 : Blk w2 wr.heap.size 29 #[.int .i64 p.f, .int .i64 p.t, .slice sa p.b.length sc] := by rw [hw2]; exact Blk.new _ _ _
        have hO2 := hO.up hf2
        have hbw2 := hbw.fr hf2 (fun _ _ h => h)
        have hq : ¬ F wr.heap.size := fun h => by have := hO.st.hi _ h; omega
        have hqv : ∀ k, (Value.slice va L.length vc).ownBlock = some k → k ≠ wr.heap.size := fun k hk => by have := (hO.sent.lt k hk).2; omega
        have HW2 := Lib.hid hw2
        have hqW := hO.fr.size
        clear hw2 hf2 hO hbw
        go_upto_region 9 with (fail)
        rw [← HW2.out]
        clear HW2 q0 q1 q2
        obtain ⟨q, hq'⟩ : ∃ q, q = wr.heap.size := ⟨_, rfl⟩
        rw [← hq'] at hb2 hq hqv hqW ⊢
        clear hq'
        have c0 := hb2.cell 0 rfl
        have c1 := hb2.cell 1 rfl
        have c2 := hb2.cell 2 rfl
        by_cases hlong : 3000 < p.b.length
        · go_wp2_with fail
          refine (long_any p _ w2 hbw2).mono ?_
          rintro e w3 ⟨rfl, hf3⟩
          rw [decide_eq_true hlong]
          have hO3 := hO2.up hf3
          clear c0 c1 c2 hO2
          go_wp2_with fail
          refine (known_any w3).mono ?_
          rintro e w4 ⟨rfl, hf4⟩
          go_wp2_with fail
          go_ret
          exact ⟨rfl, (hO3.fr.tr hf4.none_up).below (Nat.le_refl _)⟩
        · go_wp2_with fail
          refine (long_any p _ w2 hbw2).mono ?_
          rintro e w3 ⟨rfl, hf3⟩
          rw [decide_eq_false hlong]
          have hO3 := hO2.up hf3
          have hb3 := hb2.fr hf3 (fun h => h)
          have hbw3 := hbw2.fr hf3 (fun _ _ h => h)
          clear c0 c1 c2 hO2 hb2 hbw2 hf3
          have HO3 := Lib.hid hO3
          have c0 := hb3.cell 0 rfl
          have c1 := hb3.cell 1 rfl
          have c2 := hb3.cell 2 rfl
          clear hO3
          go_wp2_with fail
          refine (send_st W.heap.size nb 4 _ _ F _ HO3.out.st HO3.out.fr.size p _ hbw3 (by omega)).mono ?_
          rintro e w4 ⟨rfl, G, hS, hM⟩
          have hO4 := HO3.out.mv hS hM
          have hb4 := hb3.fr hM.fr hq
          clear c0 c1 c2 HO3 hS hM hb3 hbw3 hq
          have c0 := hb4.cell 0 rfl
          have c1 := hb4.cell 1 rfl
          have c2 := hb4.cell 2 rfl
          have hsE : sendE 4 L p = 0 → inN 4 p.f = true ∧ inN 4 p.t = true := sendE_in
          have hsL : sendL 4 L A1 p = if sendE 4 L p = 0 ∧ (R && cutB a b p) = false then L ++ [p] else L := by
            unfold sendL
            by_cases h0 : sendE 4 L p = 0
            · obtain ⟨i1, i2⟩ := hsE h0
              rw [HA1.out, setP_at i1 i2, ← HR.out]
              rfl
            · rw [if_neg (fun h => h0 h.1), if_neg (fun h => h0 h.1)]
          rw [hsL] at hO4
          have HO4 := Lib.hid hO4
          clear hsE hsL hO4
          obtain ⟨X, hX⟩ : ∃ X, X = sendE 4 L p := ⟨_, rfl⟩
          rw [← hX]
          rw [← hX] at HO4
          clear hX
          go_upto_region 16 with (fail)
          go_cut [15] (fun x15 wx => x15 = .bool (R && cutB a b p) ∧ w4 = wx)
          case first =>
            cases R with
            | false =>
              go_wp2_with fail
              go_meet
              exact ⟨rfl, rfl⟩
            | true =>
              cases h1 : (p.f == a) <;> cases h2 : (p.t == b) <;> cases h3 : (p.f == b) <;> cases h4 : (p.t == a)
              all_goals
                go_wp2_with fail
                go_meet
                exact ⟨by simp [cutB, h1, h2, h3, h4], rfl⟩
          case rest =>
            obtain ⟨rfl, hw⟩ := hcut
            obtain ⟨wn, hwn⟩ : ∃ wn, wn = wc := ⟨_, rfl⟩
            rw [← hwn] at hw ⊢
            clear hwn
            subst hw
            obtain ⟨Y, hY⟩ : ∃ Y, Y = (R && cutB a b p) := ⟨_, rfl⟩
            rw [← hY] at HO4 ⊢
            clear hY
            by_cases hX0 : X = 0
            · subst hX0
              cases Y with
              | true =>
                have HO4 := Lib.hid (show Or W w4 nb 4 (.slice va L.length vc) L vs L A1 G by simpa using HO4.out)
                go_wp2_with fail
                go_roundg (l.length - (k + 1))
                case measure => have := HK.out; omega
                case rel => exact ⟨k + 1, va, vc, vs, L, G, by omega, rfl, by go_num, by omega, HO4.out⟩
              | false =>
                have hO4 : Or W w4 nb 4 (.slice va L.length vc) L vs (L ++ [p]) A1 G := by simpa using HO4.out
                clear HO4
                obtain ⟨w5, hw5⟩ : ∃ w5, w5 = w4.alloc (.cells #[.int .i64 p.f, .int .i64 p.t, .slice sa p.b.length sc] 29) := ⟨_, rfl⟩
                have hf5 : Fr (fun _ => False) w4 w5 := by rw [hw5]; exact (Fr.refl _ w4).alloc _
                have hO5 := hO4.up hf5
                have hn5 : ∀ j u, [Value.int .i64 p.f, .int .i64 p.t, .slice sa p.b.length sc][j]? = some u → w5.cell? (Addr.add ⟨w4.heap.size, 0, none⟩ j) = some u := by
                  rw [hw5]; exact World.news_of_block (cs := #[.int .i64 p.f, .int .i64 p.t, .slice sa p.b.length sc]) (t := 29) (fr := (0, 0)) (heap_alloc_new w4 _)
                have HW5 := Lib.hid hw5
                have HO5 := Lib.hid hO5
                have hrow := hO5.sent.row
                have hz5 := hO5.fr.size
                have hL6 : L.length < 256 := by omega
                clear hw5 hO5 hf5 hO4
                go_wp2_with (first
                  | (at_builtin
                     rw [← HW5.out]
                     clear HW5
                     refine wpList_bi2 rfl .append _ _ _ _ _ rfl rfl rfl _ (ap_cells (base := W.heap.size) Try.underlying22 hi0 hz0 hz1 hz2 rfl (by omega) hrow ⟨w4.heap.size, 0, none⟩ 1 1 [.int .i64 p.f, .int .i64 p.t, .slice sa p.b.length sc] rfl hn5 (by simp [Value.oneCell']) (by unfold maxLen; omega) (by omega) hz5) ?_
                     rintro v' w6 hap))
                have hO6 := HO5.out.more hbyt hap
                obtain ⟨va', vc', rfl⟩ := hO6.sent.form
                go_roundg (l.length - (k + 1))
                case measure => have := HK.out; omega
                case rel => exact ⟨k + 1, va', vc', _, L ++ [p], G, by omega, rfl, by go_num, by simp; omega, hO6⟩
            · have HO4 := Lib.hid (show Or W w4 nb 4 (.slice va L.length vc) L vs L A1 G by have := HO4.out; rwa [if_neg (fun h => hX0 h.1)] at this)
              go_wp2_with fail
              go_roundg (l.length - (k + 1))
              case measure => have := HK.out; omega
              case rel => exact ⟨k + 1, va, vc, vs, L, G, by omega, rfl, by go_num, by omega, HO4.out⟩
      · go_wp2_with fail
        all_goals
          go_loopg [16] L.length (fun g x10 wq => ∃ (j : Nat) (G : Nat → Prop), j + g = L.length ∧ x10 = .int .i64 j ∧ Or W wq nb 4 (.slice va L.length vc) L vs (L.drop j) A1 G)
          case atStart => exact ⟨0, F, by omega, rfl, by simpa using hO⟩
          case round =>
            clear hO F
            obtain ⟨j, F, hj, rfl, hO⟩ := hrel
            have HJ := Lib.hid hj
            have hj' : j ≤ L.length := by omega
            have hr6 : L.length ≤ 9223372036854775807 := by omega
            clear hj hLk
            by_cases hjl : j < L.length
            · obtain ⟨p, hp⟩ : ∃ p, L[j]? = some p := ⟨_, List.getElem?_eq_getElem hjl⟩
              have hat : at? (L.drop j) 0 = some p := by unfold at?; rw [if_pos (by omega)]; simpa using hp
              obtain ⟨gr, lc, u, hv, hbu, d0, d1, d2⟩ := hO.sent.at hp
              injection hv with hv1 _ hv2
              subst hv1 hv2
              clear d0 d1 d2 hbu
              have hjl' : (j : Int) < (L.length : Int) := by omega
              go_wp2_with fail
              refine (take_st_some W.heap.size nb 4 _ _ F _ hO.st 0 p hat).mono ?_
              rintro e w2 ⟨g, cap, rfl, ho, hg, G, hS, hng, hM⟩
              have hO2 := hO.mv hS hM
              rw [show (L.drop j).eraseIdx (0 : Int).toNat = L.drop (j + 1) by simp] at hO2
              clear hS hM hO hg hng F
              obtain ⟨w3, hw3⟩ : ∃ w3, w3 = w2.alloc (.cells #[.int .i64 p.f, .int .i64 p.t, .slice (some ⟨g, 0, none⟩) p.b.length cap] 29) := ⟨_, rfl⟩
              have hf3 : Fr (fun _ => False) w2 w3 := by rw [hw3]; exact (Fr.refl _ w2).alloc _
              have hb3 : Blk w3 w2.heap.size 29 #[.int .i64 p.f, .int .i64 p.t, .slice (some ⟨g, 0, none⟩) p.b.length cap] := by rw [hw3]; exact Blk.new _ _ _
              have hO3 := hO2.up hf3
              have hy1 := Byt.of_own (own_fr ho hf3 (fun _ _ h => h))
              obtain ⟨gr', lc', u', hv, hbu, d0, d1, d2⟩ := hO3.sent.at hp
              injection hv with hv1 _ hv2
              injection hv1 with hv1
              injection hv1 with hv1 _
              subst hv1 hv2
              have hy2 := hbu.keep (Nat.le_refl _) hO3.fr
              have c0 := hb3.cell 0 rfl
              have c1 := hb3.cell 1 rfl
              have c2 := hb3.cell 2 rfl
              have HW3 := Lib.hid hw3
              have HO3 := Lib.hid hO3
              clear hw3 hO2 ho hf3 hb3 hO3 hbu
              go_upto_region 23 with (fail)
              rw [← HW3.out]
              clear HW3
              go_region_law (first
                | (go_simp
                   go_at_call 14
                   refine (same_any p p _ u' _ hy1.drew hy2.drew).mono ?_
                   rintro e w4 ⟨rfl, hf4⟩
                   rw [sameB_refl]))
              all_goals
                have hO4 := HO3.out.up hf4.of_drew
                clear d0 d1 d2 c0 c1 c2 hy1 hy2 HO3 hf4
                go_wp2_with fail
                go_roundg (L.length - (j + 1))
                case measure => have := HJ.out; omega
                case rel => exact ⟨j + 1, G, by omega, by go_num, hO4⟩
            · obtain rfl : j = L.length := by omega
              rw [List.drop_length] at hO
              have HO := Lib.hid hO
              clear hO
              go_wp2_with fail
              refine (join_st W.heap.size nb 4 [] _ F wr HO.out.st HO.out.fr.size b a).mono ?_
              rintro e w2 ⟨rfl, F2, hS, hM⟩
              have hO2 := HO.out.mv hS hM
              rw [HA1.out, setP_off] at hO2
              rw [HRE2.out]
              clear hS hM HO
              have hO3 := hO2.up ((Fr.refl (fun _ => False) w2).alloc (.cells #[.int .u8 (UInt8.toNat 120 : Nat)] 5 (1, 2)))
              have HO3 := Lib.hid hO3
              clear hO2 hO3
              go_wp2_with fail
              refine (send_st W.heap.size nb 4 [] _ F2 _ HO3.out.st HO3.out.fr.size ⟨0, 1, [120]⟩ _ (byt_lit w2 120 _) (by decide)).mono ?_
              rintro e w3 ⟨rfl, F3, hS, hM⟩
              have hO4 := HO3.out.mv hS hM
              rw [show sendE 4 [] ⟨0, 1, [120]⟩ = 0 by rfl]
              rw [show sendL 4 [] (fun _ _ => false) ⟨0, 1, [120]⟩ = [⟨0, 1, [120]⟩] by rfl] at hO4
              clear hS hM HO3
              have hE2 : ((E == 0) == R) = true := by rw [HRe.out]; cases R <;> rfl
              have HO4 := Lib.hid hO4
              clear hO4
              go_wp2_with fail
              refine (len_any nb 4 _ _ F3 w3 HO4.out.st.r).mono ?_
              rintro e w4 ⟨rfl, rfl⟩
              go_wp2_with fail
              refine (parted_any nb 4 _ _ F3 a b w3 HO4.out.st.r).mono ?_
              rintro e w4 ⟨rfl, nq, rfl⟩
              rw [show pB 4 (fun _ _ => false) a b = false by simp [pB]]
              go_wp2_with fail
              refine (known_any _).mono ?_
              rintro e w5 ⟨rfl, hf5⟩
              go_wp2_with fail
              go_ret
              exact ⟨rfl, ((HO4.out.fr.drewN nq).tr hf5.none_up).below (Nat.le_refl _)⟩
end Go.Proofs.Ytemjgllijlaejaa
