/- The walk of ProposeSame. -/
import Derived.Test.YtliljjlegofmkaaPSa
import Derived.Deep.LoopGhost
namespace Go.Proofs.Ytliljjlegofmkaa
open Go.RowKit

/-- The law's proposer, and a vote that it told, in a block of the law's own. -/
structure SmR (W w : World) (r bv : Nat) (V : Vt) (s : Value) (p : Ps) (c : Nat) (G : Nat → Prop) : Prop where
  l : Lw W w r p c G
  b : Blk w bv 45 #[.int .u64 V.s, .int .u64 V.n, .int .i64 V.d, s]
  o : w.ownsRow 0 5 1 s V.v.length (u8s V.v)
  nb : ¬ G bv
  no : ∀ j, s.ownBlock = some j → ¬ G j
section
variable {W w w' : World} {r bv c c' : Nat} {V : Vt} {s : Value} {p p' : Ps} {G G' : Nat → Prop}
theorem SmR.up (h : SmR W w r bv V s p c G) (hf : Fr (fun _ => False) w w') : SmR W w' r bv V s p c G := ⟨h.l.up hf, h.b.fr hf (fun h => h), own_fr h.o hf (fun _ _ h => h), h.nb, h.no⟩
theorem SmR.next (h : SmR W w r bv V s p c G) (hl : Lw W w' r p' c' G') (hn : Nx G G' w w') (hf : Fr G w w') : SmR W w' r bv V s p' c' G' :=
  ⟨hl, h.b.fr hf h.nb, own_fr h.o hf h.no, hn.not h.nb h.b.lt, fun j hj => hn.not (h.no j hj) (own_lt h.o hj)⟩
theorem SmR.end_ (h : SmR W w r bv V s p c G) (hf : Fr (fun _ => False) w w') : Below W.heap.size W w' := h.l.none_ hf
theorem VtL.inG {W w : World} {r c : Nat} {p : Ps} {G : Nat → Prop} {v : Value} {l : List Vt} (h : VtL W v l (fun k => W.heap.size ≤ k)) (hL : Lw W w r p c G) : VtL w v l G :=
  (h.up hL.fr (fun _ h => h)).mono (fun k hk => (hL.lo k hk).1)
theorem Byt.inW {W w : World} {r c : Nat} {p : Ps} {G : Nat → Prop} {v : Value} {l : List UInt8} (h : Byt W v l) (hL : Lw W w r p c G) : Byt w v l := h.keep (Nat.le_refl _) hL.fr
/-- A vote may be put into a list. -/
def VtOk (V : Vt) : Prop := V.s < 18446744073709551616 ∧ V.n < 18446744073709551616 ∧ -9223372036854775808 ≤ V.d ∧ V.d ≤ 9223372036854775807 ∧ V.v.length ≤ 1000
theorem VtOk.one {w' : World} {b : Nat} {s : Value} {V : Vt} {X : Nat → Prop} (h : VtOk V) (hB : Blk w' b 45 #[.int .u64 V.s, .int .u64 V.n, .int .i64 V.d, s]) (hs : Byt w' s V.v) (hX : ¬ X b) (hX2 : ∀ g, s.ownBlock = some g → V.v ≠ [] → ¬ X g) (c : Nat) :
    VtL w' (.slice (some ⟨b, 0, none⟩) 1 c) [V] X :=
  vtl_one hB hs hX hX2 (by have := h.2.2.2.2; unfold maxLen; omega) h.1 h.2.1 h.2.2.1 h.2.2.2.1 c
end

theorem wf_vtok {p : Ps} (hw : Wf p) {V : Vt} (hs : V.s < 18446744073709551616) (hn : V.n = p.n) (hd : V.d = p.d) (hl : V.v.length ≤ 100) : VtOk V := by
  have h1 := hw.rb
  have h2 := hw.n64
  unfold rightB at h1
  simp only [decide_eq_true_eq] at h1
  unfold VtOk
  rw [hn, hd]
  refine ⟨hs, h2, by omega, by omega, by omega⟩

set_option maxRecDepth 100000 in
set_option maxHeartbeats 16000000 in
theorem same_law (v1 v2 v3 : Value) (l m : List At) (slot : Nat) (own : List UInt8) (W : World) (h1 : AtL W v1 l (fun k => W.heap.size ≤ k)) (hs64 : slot < 18446744073709551616) (h2 : Byt W v2 own) (hol : own.length ≤ maxLen) (h3 : AtL W v3 m (fun k => W.heap.size ≤ k)) :
    Calls Try.prog 4 #[v1, .int .u64 slot, v2, v3] W fun e w' => e = .returned (.bool true) ∧ Below W.heap.size W w' := by
  have HL1 := Lib.hid (long_any v1 l _ W h1)
  have HL2 := Lib.hid (long_any v3 m _ W h3)
  have HO := Lib.hid h2
  obtain ⟨A, c, rfl, hlm, hl⟩ := h1
  obtain ⟨B, d, rfl, hmm, hm⟩ := h3
  obtain ⟨C, oc, rfl, -, -⟩ := h2
  unfold maxLen at hlm hmm hol
  have HL := Lib.hid hl
  have HM := Lib.hid hm
  clear hl hm
  go_enter Try.func4, Try.ntmps4
  go_wp2_with fail
  refine HL1.out.mono ?_
  rintro e w1 ⟨b1, rfl, rfl, hb1⟩
  have HB1 := Lib.hid hb1
  clear hb1
  cases b1 with
  | true =>
    go_wp2_with fail
    refine (known_any W).mono ?_
    rintro e w2 ⟨rfl, hf⟩
    go_wp2_with fail
    go_ret
    exact ⟨rfl, hf.none_up.below (Nat.le_refl _)⟩
  | false =>
  have HSh1 := Lib.hid (HB1.out rfl)
  go_wp2_with fail
  refine HL2.out.mono ?_
  rintro e w1 ⟨b2, rfl, rfl, hb2⟩
  have HB2 := Lib.hid hb2
  clear hb2
  cases b2 with
  | true =>
    go_wp2_with fail
    refine (known_any W).mono ?_
    rintro e w2 ⟨rfl, hf⟩
    go_wp2_with fail
    go_ret
    exact ⟨rfl, hf.none_up.below (Nat.le_refl _)⟩
  | false =>
  have HSh2 := Lib.hid (HB2.out rfl)
  clear HB1 HB2 HL1 HL2
  by_cases ho1 : (100 : Int) < (own.length : Int)
  · go_wp2_with fail
    refine (known_any W).mono ?_
    rintro e w2 ⟨rfl, hf⟩
    go_wp2_with fail
    go_ret
    exact ⟨rfl, hf.none_up.below (Nat.le_refl _)⟩
  have ho100 : own.length ≤ 100 := by omega
  by_cases hsl : slot = 0
  · have hsl' : ((slot : Int) == 0) = true := by simp [hsl]
    go_wp2_with fail
    refine (known_any W).mono ?_
    rintro e w2 ⟨rfl, hf⟩
    go_wp2_with fail
    go_ret
    exact ⟨rfl, hf.none_up.below (Nat.le_refl _)⟩
  have hsl' : ((slot : Int) == 0) = false := by simp [hsl]
  have hsl1 : 1 ≤ slot := by omega
  go_wp2_with fail
  refine (three_any W).mono ?_
  rintro e w1 ⟨rfl, hf1⟩
  clear ho1 hsl hsl'
  go_wp2_with fail
  refine (new_lw W w1 hf1.none_up Q3 _ 900 0 1 (ints_nil w1) (fun c h => by injection h with _ _ h; exact h.symm) (by decide) q3_right (by decide) (by omega) (by omega) (by omega)).mono ?_
  rintro e w2 ⟨r, G, rfl, hL, -, -⟩
  have hS0 := S0.new 900 0
  have HS0 := Lib.hid hS0
  generalize newP Q3 900 0 1 = p0 at hL HS0
  clear hf1 hS0
  go_wp2_with fail
  go_loopg [11] l.length (fun g x11 wr => ∃ (j c : Nat) (p : Ps) (G : Nat → Prop), j + g = l.length ∧ x11 = .int .i64 j ∧ c ≤ 4000 * j ∧ j ≤ 30 ∧ S0 p ∧ Lw W wr r p c G)
  case atStart => exact ⟨0, 0, p0, G, by omega, rfl, by omega, by omega, HS0.out, hL⟩
  case round =>
    clear hL HS0 p0 G
    obtain ⟨j, cc, p, G, hj, rfl, hcc, hj30, hS, hL⟩ := hrel
    have HJ := Lib.hid hj
    have HS := Lib.hid hS
    have hj' : j ≤ l.length := by omega
    clear hj hS
    by_cases hlt : j < l.length ∧ j < 30
    · obtain ⟨hlt, hlt2⟩ := hlt
      have hlt3 : (j : Int) < 30 := by omega
      obtain ⟨x, hx⟩ : ∃ x, l[j]? = some x := ⟨_, List.getElem?_eq_getElem hlt⟩
      obtain ⟨b, off, os, vs, rfl, hat⟩ := HL.out j x hx
      have hvl := (HSh1.out j x hlt (by omega) hx).2.1
      have hat' := hat.up hL.fr (fun _ h => h)
      have HAT := Lib.hid hat
      have hvot := hat.vot
      obtain ⟨⟨Av, cv, rfl, -⟩, -⟩ := hvot
      have q0 := hat'.c0
      have q1 := hat'.c1
      have q4 := hat'.c4
      have hjj0 : (0 : Int) ≤ (j : Int) := by omega
      have hjj1 : (j : Int) < (l.length : Int) := by omega
      clear hat hat' hx
      by_cases hk : x.k ≤ 1
      · have hf := (Fr.refl (fun _ => False) wr).drew
        go_upto_region 10 with (fail)
        first
          | go_region_held3 (fun wx => wx.cell? ⟨b, off + j * 5 + 1, none⟩ = some (.int .i64 x.n) ∧ wx.cell? ⟨b, off + j * 5 + 4, none⟩ = some (.slice Av x.v.length cv)) (first | exact ⟨q1, q4⟩ | exact hS4)
            ((go_at_call 14
              have hLd := hL.up hf
              refine (prm_lw hLd x.n _ x.v (by unfold maxLen; omega) (HAT.out.vot.inG hLd)).mono ?_
              rintro e w4 ⟨rfl, G4, hL4, -, -⟩
              have hat4 := HAT.out.up hL4.fr (fun _ h => h)
              have hS4 := And.intro hat4.c1 hat4.c4))
          | fail
        clear q0 q1 q4 hS4 hat4
        go_wp2_with fail
        go_roundg (l.length - (j + 1))
        case measure => have := HJ.out; omega
        case rel => exact ⟨j + 1, cc + x.v.length, _, G4, by have := HJ.out; omega, by go_num, by omega, by omega, HS.out.prm _ _, hL4⟩
      · go_wp2_with fail
        go_roundg (l.length - (j + 1))
        case measure => have := HJ.out; omega
        case rel => exact ⟨j + 1, cc, _, G, by have := HJ.out; omega, by go_num, by omega, by omega, HS.out, hL⟩
    · have hcs : (j < l.length ∧ ¬ (j : Int) < 30) ∨ ¬ (j < l.length) := by omega
      rcases hcs with ⟨ha, hb⟩ | ha
      all_goals
        go_wp2_with fail
        refine (prm_lw0 hL 0 (by unfold maxLen; omega)).mono ?_
        rintro e w3 ⟨rfl, G3, hL3, -, -⟩
        go_wp2_with fail
        refine (prm_lw0 hL3 1 (by unfold maxLen; omega)).mono ?_
        rintro e w4 ⟨rfl, G4, hL4, -, -⟩
        have hS3 := HS.out.prm 0 []
        have hb0 := prmP_own (x := 0) (HS.out.node 0 (by decide))
        have hS4 := hS3.prm 1 []
        have hb1 := prmP_own (x := 1) (hS3.node 1 (by decide))
        have hb0' := prmP_bit (x := ((1 : Nat) : Int)) (l := []) hb0
        have H4 := Lib.hid (And.intro hS4 (And.intro hb0' hb1))
        clear hS3 hb0 hS4 hb1 hb0' hL hL3 HS
        generalize prmP (prmP p 0 []) 1 [] = p4 at hL4 H4
        go_wp2_with fail
        refine (pro_lw hL4 slot hs64 _ own (by unfold maxLen; omega) (HO.out.inW hL4)).mono ?_
        rintro e w5 ⟨va, vc, G5, rfl, ho5, hL5, hX5, hn5, hf5⟩
        obtain ⟨e1, V, e2, x1, x2, x3, x4, e5⟩ := H4.out.1.pro hL4.pr.wf hsl1 H4.out.2.1 H4.out.2.2 own ho100
        rw [e1, e2]
        rw [e2] at ho5 hn5
        rw [e5] at hL5
        obtain ⟨p5, hp5⟩ : ∃ p5 : Ps, p5 = { p4 with sl := upd p4.sl slot (V, 0) } := ⟨_, rfl⟩
        rw [← hp5] at hL5
        have HB := Lib.hid (H4.out.1.both H4.out.2.1 H4.out.2.2 hp5)
        have HV := Lib.hid (wf_vtok hL4.pr.wf (by rw [x1]; exact hs64) x2 x3 x4)
        simp only [vtV]
        obtain ⟨w6, hw6⟩ : ∃ w6, w6 = w5.alloc (.cells #[.int .u64 V.s, .int .u64 V.n, .int .i64 V.d, .slice va V.v.length vc] 45) := ⟨_, rfl⟩
        have hf6 : Fr (fun _ => False) w5 w6 := by rw [hw6]; exact (Fr.refl _ w5).alloc _
        obtain ⟨bv, hbv⟩ : ∃ bv, bv = w5.heap.size := ⟨_, rfl⟩
        have hM6 : SmR W w6 r bv V (.slice va V.v.length vc) p5 (cc + 1) G5 :=
          ⟨hL5.up hf6, by rw [hw6, hbv]; exact Blk.new _ _ _, own_fr (own_base ho5) hf6 (fun _ _ h => h), by rw [hbv]; exact hL5.not_new (Nat.le_refl _), hn5⟩
        have HW6 := Lib.hid hw6
        have HBV := Lib.hid hbv
        clear e1 e2 e5 x1 x2 x3 x4 hp5 hL5 hX5 hn5 hf5 ho5 hL4 H4 hw6 hf6 hbv
        go_upto_region 14 with (fail)
        rw [← HW6.out, ← HBV.out]
        clear HW6 HBV
        go_wp2_with fail
        refine (acc_lw hM6.l 0 slot hs64).mono ?_
        rintro e w7 ⟨rfl, hL7, hf7⟩
        rw [HB.out.1]
        have hM7 := hM6.next hL7 (Nx.refl _ _ _) hf7
        clear hL7 hf7 hM6
        go_wp2_with fail
        refine (acc_lw hM7.l 2 slot hs64).mono ?_
        rintro e w8 ⟨rfl, hL8, hf8⟩
        rw [HB.out.2.1]
        have hM8 := hM7.next hL8 (Nx.refl _ _ _) hf8
        have HS8 := Lib.hid HB.out.2.2
        generalize accP (accP p5 0 slot) 2 slot = p8 at hM8 HS8
        obtain ⟨c8, hc8⟩ : ∃ c8, c8 = cc + 1 := ⟨_, rfl⟩
        rw [← hc8] at hM8
        have hc8' : c8 ≤ 120001 := by omega
        clear hL8 hf8 hM7 HB hc8
        go_wp2_with fail
        go_loopg [14] m.length (fun g x14 wr => ∃ (j c : Nat) (p : Ps) (G : Nat → Prop), j + g = m.length ∧ x14 = .int .i64 j ∧ c ≤ 120001 + 4001 * j ∧ j ≤ 30 ∧ SmP p slot V ∧ SmR W wr r bv V (.slice va V.v.length vc) p c G)
        case atStart => exact ⟨0, c8, p8, G5, by omega, rfl, by omega, by omega, HS8.out, hM8⟩
        case round =>
          clear hM8 HS8 p8 hcc hj30 hc8' hj'
          obtain ⟨j, cc, p, G, hj, rfl, hcc, hj30, hS, hM8⟩ := hrel
          have HJ := Lib.hid hj
          have HS := Lib.hid hS
          have hj' : j ≤ m.length := by omega
          clear hj hS
          by_cases hlt : j < m.length ∧ j < 30
          · obtain ⟨hlt, hlt2⟩ := hlt
            have hlt3 : (j : Int) < 30 := by omega
            obtain ⟨x, hx⟩ : ∃ x, m[j]? = some x := ⟨_, List.getElem?_eq_getElem hlt⟩
            obtain ⟨b, off, os, vs, rfl, hat⟩ := HM.out j x hx
            have hvl := (HSh2.out j x hlt (by omega) hx).2.1
            have hat' := hat.up hM8.l.fr (fun _ h => h)
            have HAT := Lib.hid hat
            have hvot := hat.vot
            have hown := hat.own
            have hx64 := hat.s64
            obtain ⟨⟨Av, cv, rfl, -⟩, -⟩ := hvot
            obtain ⟨Ao, co, rfl, -, -⟩ := hown
            have q0 := hat'.c0
            have q1 := hat'.c1
            have q2 := hat'.c2
            have q3 := hat'.c3
            have q4 := hat'.c4
            clear hat hat' hx
            obtain ⟨w1, hw1⟩ : ∃ w1, w1 = wr.alloc (.cells #[.int .i64 x.k, .int .i64 x.n, .int .u64 x.s, .slice Ao x.o.length co, .slice Av x.v.length cv] 58) := ⟨_, rfl⟩
            have hf1 : Fr (fun _ => False) wr w1 := by rw [hw1]; exact (Fr.refl _ wr).alloc _
            obtain ⟨bx, hbx⟩ : ∃ bx, bx = wr.heap.size := ⟨_, rfl⟩
            have hX1 : Blk w1 bx 58 #[.int .i64 x.k, .int .i64 x.n, .int .u64 x.s, .slice Ao x.o.length co, .slice Av x.v.length cv] := by rw [hw1, hbx]; exact Blk.new _ _ _
            have hnx : ¬ G bx := by rw [hbx]; exact hM8.l.not_new (Nat.le_refl _)
            have hM1 := hM8.up hf1
            have HW1 := Lib.hid hw1
            have HBX := Lib.hid hbx
            clear hw1 hf1 hbx hM8
            go_upto_region 22 with (fail)
            rw [← HW1.out, ← HBX.out]
            clear HW1 HBX q0 q1 q2 q3 q4
            have q0 := hX1.cell 0 rfl
            have q1 := hX1.cell 1 rfl
            have q2 := hX1.cell 2 rfl
            have q3 := hX1.cell 3 rfl
            have q4 := hX1.cell 4 rfl
            by_cases hk : x.k ≤ 1
            all_goals go_wp2_with fail
            all_goals first
              | (refine (prm_lw hM1.l x.n _ x.v (by unfold maxLen; omega) (HAT.out.vot.inG hM1.l)).mono ?_
                 rintro e w4 ⟨rfl, G4, hL4, hY4, hf4⟩
                 have hM4 := hM1.next hL4 hY4 hf4
                 have hX4 := hX1.fr hf4 hnx
                 have hnx4 := hY4.not hnx hX1.lt
                 have HS4 := Lib.hid (HS.out.prm x.n x.v)
                 generalize prmP p x.n x.v = p4 at hM4 HS4
                 generalize prmE p x.n x.v = E4
                 obtain ⟨c4, hc4⟩ : ∃ c4, c4 = cc + x.v.length := ⟨_, rfl⟩
                 rw [← hc4] at hM4
                 have hcc4 : c4 ≤ 124001 + 4001 * j := by omega
                 clear q0 q1 q2 q3 q4 hL4 hY4 hf4 hX1 hnx hM1 hc4 HS)
              | (refine (acc_lw hM1.l x.n x.s hx64).mono ?_
                 rintro e w4 ⟨rfl, hL4, hf4⟩
                 have hM4 := hM1.next hL4 (Nx.refl _ _ _) hf4
                 have hX4 := hX1.fr hf4 hnx
                 have hnx4 := hnx
                 have HS4 := Lib.hid (HS.out.acc x.n x.s)
                 generalize accP p x.n x.s = p4 at hM4 HS4
                 generalize accE p x.n x.s = E4
                 obtain ⟨c4, hc4⟩ : ∃ c4, c4 = cc := ⟨_, rfl⟩
                 rw [← hc4] at hM4
                 have hcc4 : c4 ≤ 124001 + 4001 * j := by omega
                 clear q0 q1 q2 q3 q4 hL4 hf4 hX1 hnx hM1 hc4 HS)
            all_goals
              have q3 := hX4.cell 3 rfl
              go_wp2_with fail
              refine (pro_lw hM4.l slot hs64 _ x.o (by unfold maxLen; omega) (HAT.out.own.inW hM4.l)).mono ?_
              rintro e w5 ⟨va5, vc5, G5, rfl, ho5, hL5, hX5, hn5, hf5⟩
              obtain ⟨e1, e2, e3⟩ := HS4.out.pro hsl1 x.o
              rw [e1, e2]
              rw [e2] at ho5 hn5
              rw [e3] at hL5
              have hM5 := hM4.next hL5 hX5 hf5
              clear e1 e2 e3 hL5 hX5 hf5 hM4 q3 hX4 hnx4
              simp only [vtV]
              obtain ⟨w6, hw6⟩ : ∃ w6, w6 = w5.alloc (.cells #[.int .u64 V.s, .int .u64 V.n, .int .i64 V.d, .slice va5 V.v.length vc5] 45) := ⟨_, rfl⟩
              have hf6 : Fr (fun _ => False) w5 w6 := by rw [hw6]; exact (Fr.refl _ w5).alloc _
              obtain ⟨by_, hby⟩ : ∃ b, b = w5.heap.size := ⟨_, rfl⟩
              have hM6 := hM5.up hf6
              have hY6 : Blk w6 by_ 45 #[.int .u64 V.s, .int .u64 V.n, .int .i64 V.d, .slice va5 V.v.length vc5] := by rw [hw6, hby]; exact Blk.new _ _ _
              have ho6 := own_fr (own_base ho5) hf6 (fun _ _ h => h)
              have HW6 := Lib.hid hw6
              have HBY := Lib.hid hby
              clear hw6 hf6 hby ho5 hM5 hn5
              go_upto_region 26 with (fail)
              rw [← HW6.out, ← HBY.out]
              clear HW6 HBY
              go_wp2_with fail
              refine (chosen_any r p4 _ _ slot hs64 w6 hM6.l.pr).mono ?_
              rintro e w7 ⟨va7, vc7, rfl, ho7, hf7⟩
              rw [HS4.out.ch] at ho7 ⊢
              simp only [Option.getD_some, Option.isSome_some] at ho7 ⊢
              have hM7 := hM6.up hf7
              have hY7 := hY6.fr hf7 (fun h => h)
              have hoo7 := own_fr ho6 hf7 (fun _ _ h => h)
              clear hM6 hY6 ho6 hf7
              have b0 := hM7.b.cell 0 rfl
              have b1 := hM7.b.cell 1 rfl
              have b2 := hM7.b.cell 2 rfl
              have b3 := hM7.b.cell 3 rfl
              obtain ⟨w8, hw8⟩ : ∃ w8, w8 = w7.alloc (.cells #[.int .u64 V.s, .int .u64 V.n, .int .i64 V.d, .slice va V.v.length vc] 45) := ⟨_, rfl⟩
              obtain ⟨w9, hw9⟩ : ∃ w9, w9 = w8.alloc (.cells #[.int .u64 V.s, .int .u64 V.n, .int .i64 V.d, .slice va5 V.v.length vc5] 45) := ⟨_, rfl⟩
              have hf8 : Fr (fun _ => False) w7 w8 := by rw [hw8]; exact (Fr.refl _ w7).alloc _
              have hf9 : Fr (fun _ => False) w8 w9 := by rw [hw9]; exact (Fr.refl _ w8).alloc _
              have hz8 : w8.heap.size = w7.heap.size + 1 := by rw [hw8]; simp
              have hA8 : Blk w8 w7.heap.size 45 #[.int .u64 V.s, .int .u64 V.n, .int .i64 V.d, .slice va V.v.length vc] := by rw [hw8]; exact Blk.new _ _ _
              have hA9 : Blk w9 w8.heap.size 45 #[.int .u64 V.s, .int .u64 V.n, .int .i64 V.d, .slice va5 V.v.length vc5] := by rw [hw9]; exact Blk.new _ _ _
              have hL1 : VtL w9 (.slice (some ⟨w7.heap.size, 0, none⟩) 1 1) [V] (fun _ => False) := HV.out.one (hA8.fr hf9 (fun h => h)) (Byt.of_own (own_fr hM7.o (hf8.tr hf9) (fun _ _ h => h))) (fun h => h) (fun _ _ _ h => h) 1
              have hL2 : VtL w9 (.slice (some ⟨w8.heap.size, 0, none⟩) 1 1) [V] (fun _ => False) := HV.out.one hA9 (Byt.of_own (own_fr hoo7 (hf8.tr hf9) (fun _ _ h => h))) (fun h => h) (fun _ _ _ h => h) 1
              have hM9 := hM7.up (hf8.tr hf9)
              have hob := Byt.of_own (own_fr ho7 (hf8.tr hf9) (fun _ _ h => h))
              have y0 := al_cell (hY7.cell 0 rfl) (.cells #[.int .u64 V.s, .int .u64 V.n, .int .i64 V.d, .slice va V.v.length vc] 45)
              have y1 := al_cell (hY7.cell 1 rfl) (.cells #[.int .u64 V.s, .int .u64 V.n, .int .i64 V.d, .slice va V.v.length vc] 45)
              have y2 := al_cell (hY7.cell 2 rfl) (.cells #[.int .u64 V.s, .int .u64 V.n, .int .i64 V.d, .slice va V.v.length vc] 45)
              have y3 := al_cell (hY7.cell 3 rfl) (.cells #[.int .u64 V.s, .int .u64 V.n, .int .i64 V.d, .slice va V.v.length vc] 45)
              have H89 := Lib.hid (And.intro hw8 hw9)
              have HZ8 := Lib.hid hz8
              clear hw8 hw9 hz8 hf8 hf9 hA8 hA9 hM7 ho7 hoo7 hY7
              go_wp2_with fail
              rw [← H89.out.1, ← HZ8.out, ← H89.out.2]
              clear H89 HZ8 b0 b1 b2 b3 y0 y1 y2 y3
              refine (rsame_any _ _ [V] [V] _ _ w9 hL1 hL2).mono ?_
              rintro e w10 ⟨bb, rfl, hbb, hf10⟩
              obtain rfl : bb = true := hbb.2 rfl
              have hM10 := hM9.up hf10
              have hob2 := hob.fr hf10 (fun _ _ h => h)
              have b3 := hM10.b.cell 3 rfl
              clear hbb hf10 hL1 hL2 hM9 hob
              go_wp2_with fail
              refine (same_any _ _ V.v V.v w10 hob2 (Byt.of_own hM10.o)).mono ?_
              rintro e w11 ⟨rfl, rfl⟩
              rw [decide_eq_true rfl]
              clear b3 hob2
              go_wp2_with fail
              go_roundg (m.length - (j + 1))
              case measure => have := HJ.out; omega
              case rel => exact ⟨j + 1, c4 + 1, p4, G5, by have := HJ.out; omega, by go_num, by omega, by omega, HS4.out, hM10⟩
          · have hcs : (j < m.length ∧ ¬ (j : Int) < 30) ∨ ¬ (j < m.length) := by omega
            rcases hcs with ⟨ha, hb⟩ | ha
            all_goals
              go_wp2_with fail
              refine (known_any wr).mono ?_
              rintro e w8 ⟨rfl, hf8⟩
              go_wp2_with fail
              go_ret
              exact ⟨rfl, hM8.end_ hf8⟩
end Go.Proofs.Ytliljjlegofmkaa
