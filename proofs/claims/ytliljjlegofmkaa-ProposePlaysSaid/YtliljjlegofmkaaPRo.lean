/- The walk of ProposePlays. -/
import Derived.Test.YtliljjlegofmkaaPRn
namespace Go.Proofs.Ytliljjlegofmkaa
open Go.RowKit

theorem Tw.end_ {W w w' : World} {r rr : Nat} {p : Ps} {st : Rs} {c : Nat} {G F : Nat → Prop} (h : Tw W w r rr p st c G F) (hf : Fr (fun _ => False) w w') : Below W.heap.size W w' := h.l.none_ hf

set_option maxRecDepth 100000 in
set_option maxHeartbeats 16000000 in
theorem plays_law (q : Qu) (s : Value) (n : Nat) (d : Int) (f : Nat) (v : Value) (l : List At) (W : World) (hs : Ints W s q.s) (hnil : ∀ c, s = .slice none 0 c → c = 0) (hn : n < 18446744073709551616) (hf64 : f < 18446744073709551616) (hv : AtL W v l (fun k => W.heap.size ≤ k)) :
    Calls Try.prog 7 #[q.v s, .agg #[.int .u64 n, .int .i64 d], .int .u64 f, v] W fun e w' => e = .returned (.bool true) ∧ Below W.heap.size W w' := by
  have HS := Lib.hid hs
  have HNil := Lib.hid hnil
  have HV := Lib.hid hv
  obtain ⟨wa, hwa⟩ : ∃ wa, wa = W.alloc (.cells #[.int .i64 q.k, .int .i64 q.n, .int .i64 q.o, .int .i64 q.t, s] 24) := ⟨_, rfl⟩
  obtain ⟨w1, hw1⟩ : ∃ w1, w1 = wa.alloc (.cells #[.int .u64 n, .int .i64 d] 33) := ⟨_, rfl⟩
  have hfa : Fr (fun _ => False) W wa := by rw [hwa]; exact (Fr.refl _ W).alloc _
  have hfb : Fr (fun _ => False) wa w1 := by rw [hw1]; exact (Fr.refl _ wa).alloc _
  have hf1 := hfa.tr hfb
  have hQ : Blk wa W.heap.size 24 #[.int .i64 q.k, .int .i64 q.n, .int .i64 q.o, .int .i64 q.t, s] := by rw [hwa]; exact Blk.new _ _ _
  have hQ1 := hQ.fr hfb (fun h => h)
  have hB1 : Blk w1 wa.heap.size 33 #[.int .u64 n, .int .i64 d] := by rw [hw1]; exact Blk.new _ _ _
  have hza : wa.heap.size = W.heap.size + 1 := by rw [hwa]; simp
  obtain ⟨bq, hbq⟩ : ∃ b, b = W.heap.size := ⟨_, rfl⟩
  obtain ⟨bb, hbb⟩ : ∃ b, b = wa.heap.size := ⟨_, rfl⟩
  rw [← hbq] at hQ1
  rw [← hbb] at hB1
  have HW := Lib.hid (And.intro hwa (And.intro hw1 (And.intro hza (And.intro hbq hbb))))
  clear hnil hwa hw1 hfa hfb hQ hza hbq hbb
  obtain ⟨k, N, o, t, L⟩ := q
  obtain ⟨A, c, rfl, -⟩ := hs
  obtain ⟨A1, c1, rfl, hm1, -⟩ := hv
  unfold maxLen at hm1
  simp only [Qu.v] at HS hQ1 ⊢
  have b4 := hQ1.cell 4 rfl
  go_enter Try.func7, Try.ntmps7
  go_upto_region 1 with (fail)
  rw [← HW.out.1, ← HW.out.2.2.1, ← HW.out.2.1, ← HW.out.2.2.2.1, ← HW.out.2.2.2.2]
  clear HW
  by_cases hl : 40 < L.length
  · have hl' : (40 : Int) < (L.length : Int) := by omega
    go_wp2_with fail
    refine (known_any w1).mono ?_
    rintro e w3 ⟨rfl, hf⟩
    go_wp2_with fail
    go_ret
    exact ⟨rfl, ((hf1.tr hf).none_up).below (Nat.le_refl _)⟩
  have hl' : ¬ (40 : Int) < (L.length : Int) := by omega
  go_wp2_with fail
  refine (long_any _ l _ w1 (HV.out.imp fun A' h => by
    obtain ⟨c', h1, h2, h3⟩ := h
    exact ⟨c', h1, h2, fun i x hx => by obtain ⟨b, off, os, vs, h4, h5⟩ := h3 i x hx; exact ⟨b, off, os, vs, h4, h5.up hf1 (fun _ h => h.elim)⟩⟩)).mono ?_
  rintro e w3 ⟨lg, rfl, rfl, hsh⟩
  cases lg with
  | true =>
    clear hsh
    go_wp2_with fail
    refine (known_any w1).mono ?_
    rintro e w3 ⟨rfl, hf⟩
    go_wp2_with fail
    go_ret
    exact ⟨rfl, ((hf1.tr hf).none_up).below (Nat.le_refl _)⟩
  | false =>
    have HSh := Lib.hid (hsh rfl)
    clear hsh
    have b0 := hQ1.cell 0 rfl
    have b1 := hQ1.cell 1 rfl
    have b2 := hQ1.cell 2 rfl
    have b3 := hQ1.cell 3 rfl
    have d0 := hB1.cell 0 rfl
    have d1 := hB1.cell 1 rfl
    have hlq : L.length ≤ 1000 := by omega
    by_cases hbad : ¬ rightE ⟨k, N, o, t, L⟩ = 0 ∨ rightB n d = false ∨ f = 0
    · obtain ⟨E, hE⟩ : ∃ E, E = (if rightE ⟨k, N, o, t, L⟩ = 0 then 2 else rightE ⟨k, N, o, t, L⟩) := ⟨_, rfl⟩
      have hE0 : ¬ E = 0 := by
        rw [hE]
        split
        · omega
        · assumption
      have hnew : Calls Try.prog 12 #[(⟨k, N, o, t, L⟩ : Qu).v (.slice A L.length c), .agg #[.int .u64 n, .int .i64 d], .int .u64 f] w1 fun e w' => e = .returned (.tuple #[.pointer none, .int .i64 E]) ∧ Fr (fun _ => False) w1 w' := by
        rw [hE]
        by_cases hq : rightE ⟨k, N, o, t, L⟩ = 0
        · rw [if_pos hq]
          exact new_bad _ _ n d f w1 (HS.out.keep hf1.none_up) hlq hq (by rcases hbad with h | h; exact absurd hq h; exact h)
        · rw [if_neg hq]
          exact new_badq _ _ n d f w1 (HS.out.keep hf1.none_up) hlq hq
      have HNew := Lib.hid hnew
      have HE := Lib.hid hE
      have HBad := Lib.hid hbad
      have hEn : (E != 0) = true := by simp [hE0]
      have hEe : (E == E) = true := by simp
      clear hnew hE hbad hE0
      go_wp2_with fail
      refine HNew.out.mono ?_
      rintro e w2 ⟨rfl, hf2⟩
      have hf12 := hf1.tr hf2
      have hQ2 := hQ1.fr hf2 (fun h => h)
      have hB2 := hB1.fr hf2 (fun h => h)
      clear b0 b1 b2 b3 b4 d0 d1 hf2
      have b0 := hQ2.cell 0 rfl
      have b1 := hQ2.cell 1 rfl
      have b2 := hQ2.cell 2 rfl
      have b3 := hQ2.cell 3 rfl
      have b4 := hQ2.cell 4 rfl
      have d0 := hB2.cell 0 rfl
      have d1 := hB2.cell 1 rfl
      go_wp2_with fail
      refine (rnew_bad ⟨k, N, o, t, L⟩ _ n d f w2 (HS.out.keep hf12.none_up) hlq HBad.out).mono ?_
      rintro e w3 ⟨rfl, hf3⟩
      rw [← HE.out]
      clear b0 b1 b2 b3 b4 d0 d1
      go_wp2_with fail
      refine (known_any w3).mono ?_
      rintro e w4 ⟨rfl, hf4⟩
      go_wp2_with fail
      go_ret
      exact ⟨rfl, (((hf12.tr hf3).tr hf4).none_up).below (Nat.le_refl _)⟩
    have hgq : rightE ⟨k, N, o, t, L⟩ = 0 := Classical.byContradiction fun h => hbad (.inl h)
    have hgb : rightB n d = true := by cases h : rightB n d with | true => rfl | false => exact absurd (.inr (.inl h)) hbad
    have hgf : 1 ≤ f := Classical.byContradiction fun h => hbad (.inr (.inr (by omega)))
    have HG := Lib.hid (And.intro hgq hgb)
    clear hbad hgq hgb
    go_wp2_with fail
    refine (new_lw W w1 hf1.none_up ⟨k, N, o, t, L⟩ _ n d f (HS.out.keep hf1.none_up) HNil.out hlq HG.out.1 HG.out.2 hn hgf hf64).mono ?_
    rintro e w2 ⟨r, G, rfl, hL2, hf2, hge⟩
    have hf12 := hf1.tr hf2
    have hQ2 := hQ1.fr hf2 (fun h => h)
    have hB2 := hB1.fr hf2 (fun h => h)
    clear b0 b1 b2 b3 b4 d0 d1 hf2
    have b0 := hQ2.cell 0 rfl
    have b1 := hQ2.cell 1 rfl
    have b2 := hQ2.cell 2 rfl
    have b3 := hQ2.cell 3 rfl
    have b4 := hQ2.cell 4 rfl
    have d0 := hB2.cell 0 rfl
    have d1 := hB2.cell 1 rfl
    go_wp2_with fail
    refine (rnew_ok ⟨k, N, o, t, L⟩ _ n d f w2 (HS.out.keep hf12.none_up) HNil.out hlq HG.out.1 HG.out.2 hn hgf hf64).mono ?_
    rintro e w3 ⟨rr, rfl, hR3, hf3⟩
    have T3 : Tw W w3 r rr (newP ⟨k, N, o, t, L⟩ n d f) (rs0 ⟨k, N, o, t, L⟩ n d f) 0 G (fun k => w2.heap.size ≤ k ∧ k < w3.heap.size) :=
      ⟨hL2.up hf3, hR3, fun j hj => ⟨by have := hL2.fr.size; omega, hj.2⟩, fun j hj hF => by have := (hL2.lo j hj).2; omega⟩
    have hB3 : Bd 0 (rs0 ⟨k, N, o, t, L⟩ n d f) 0 := ⟨by omega, by simp [rs0], by simp [rs0]⟩
    have HT3 := Lib.hid (And.intro T3 (And.intro (Rel.new ⟨k, N, o, t, L⟩ n d f) hB3))
    clear b0 b1 b2 b3 b4 d0 d1 hL2 hR3 hf3 hge hQ2 hB2 hf12 hf1 hQ1 hB1 hB3 T3
    go_wp2_with fail
    go_loopg [13] l.length (fun g x13 wr => ∃ (j : Nat) (p : Ps) (st : Rs) (c : Nat) (G F : Nat → Prop), j + g = l.length ∧ j ≤ 60 ∧ x13 = .int .i64 j ∧ Tw W wr r rr p st c G F ∧ Rel p st ∧ Bd c st j)
    case atStart => exact ⟨0, _, _, _, _, _, by omega, by omega, rfl, HT3.out⟩
    case round =>
      clear HT3 G
      obtain ⟨j, p, st, c, G, F, hj, hj60, rfl, T4, hrel4, hbd4⟩ := hrel
      have HJ := Lib.hid hj
      have hj' : j ≤ l.length := by omega
      have HT := Lib.hid (And.intro T4 (And.intro hrel4 hbd4))
      clear hj hrel4 hbd4
      by_cases hlt : j < l.length ∧ j < 60
      · obtain ⟨hlt, hlt2⟩ := hlt
        obtain ⟨x, hx⟩ : ∃ x, l[j]? = some x := ⟨_, List.getElem?_eq_getElem hlt⟩
        have hxs := HSh.out j x hlt hlt2 hx
        obtain ⟨A', c', e1, -, hat0⟩ := HV.out
        obtain ⟨b, off, os, vs, e2, hat⟩ := hat0 j x hx
        clear hat0
        injection e1 with e3 _ e4
        subst e2
        subst e3 e4
        have hlo : b < W.heap.size := World.block_lt_of_cell? W _ hat.c0
        have hnl : ¬ W.heap.size ≤ b := by omega
        have q0 := T4.l.fr.cell hat.c0 hnl
        have q1 := T4.l.fr.cell hat.c1 hnl
        have q2 := T4.l.fr.cell hat.c2 hnl
        have q3 := T4.l.fr.cell hat.c3 hnl
        have q4 := T4.l.fr.cell hat.c4 hnl
        have HA := Lib.hid (And.intro hat (And.intro hnl hxs))
        have hs64 := hat.s64
        clear hat hnl hxs hx hlo
        go_wp2_with fail
        refine (play_any W wr r rr c j p st G F x os vs HT.out.1 HT.out.2.1 HT.out.2.2 hj60 hs64 HA.out.1.own HA.out.1.vot HA.out.2.2).mono ?_
        rintro e w5 ⟨rfl, p5, st5, c5, G5, F5, T5, hrel5, hbd5⟩
        have q2 := T5.l.fr.cell HA.out.1.c2 HA.out.2.1
        have hc5 : c5 ≤ maxLen := by have := hbd5.1; unfold maxLen; omega
        have HT5 := Lib.hid (And.intro T5 (And.intro hrel5 hbd5))
        clear q0 q1 q3 q4 T4 T5 hrel5 hbd5
        go_wp2_with fail
        refine (alike_any r rr p5 st5 c5 G5 F5 x.s hs64 w5 HT5.out.1.l.pr hc5 HT5.out.1.r HT5.out.2.1).mono ?_
        rintro e w6 ⟨rfl, hf6⟩
        have T6 := HT5.out.1.up hf6
        have HT6 := Lib.hid T6
        clear q2 hf6 T6
        go_wp2_with fail
        refine (alike_any r rr p5 st5 c5 G5 F5 f hf64 w6 HT6.out.l.pr hc5 HT6.out.r HT5.out.2.1).mono ?_
        rintro e w7 ⟨rfl, hf7⟩
        have T7 := HT6.out.up hf7
        clear hf7
        go_wp2_with fail
        go_roundg (l.length - (j + 1))
        case measure => have := HJ.out; omega
        case rel => exact ⟨j + 1, p5, st5, c5, G5, F5, by have := HJ.out; omega, by omega, by go_num, T7, HT5.out.2.1, HT5.out.2.2⟩
      · have hcs : (j < l.length ∧ ¬ (j : Int) < 60) ∨ ¬ (j < l.length) := by omega
        clear T4
        rcases hcs with ⟨ha, hb⟩ | ha
        all_goals
          go_wp2_with fail
          refine (known_any wr).mono ?_
          rintro e w8 ⟨rfl, hf8⟩
          go_wp2_with fail
          go_ret
          exact ⟨rfl, HT.out.1.end_ hf8⟩
end Go.Proofs.Ytliljjlegofmkaa
