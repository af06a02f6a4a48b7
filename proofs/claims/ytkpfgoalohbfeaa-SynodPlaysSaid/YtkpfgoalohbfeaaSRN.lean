/- SynodPlays. -/
import Derived.Test.YtkpfgoalohbfeaaSRM
namespace Go.Proofs.Ytkpfgoalohbfeaa
open Go.RowKit

def PlI (W w : World) (r nb r' nb' i : Nat) : Prop := ∃ st gh G F G' F', Kp st gh Lim ∧ Ld W w r nb st (120 * i) G F r' nb' st (60 * i) G' F'

set_option maxRecDepth 100000 in
set_option maxHeartbeats 32000000 in
theorem plays_law (q : Qu) (s : Value) (v : Value) (l : List Ac) (W : World) (hs : Ints W s q.s) (hnil : ∀ c, s = .slice none 0 c → c = 0) (_ : q.s.length ≤ maxLen) (hv : AcL W v l (fun k => W.heap.size ≤ k)) :
    Calls Try.prog 7 #[q.v s, v] W fun e w' => e = .returned (.bool true) ∧ Below W.heap.size W w' := by
  have hs0 := hs
  obtain ⟨A, c, rfl, -⟩ := hs0
  obtain ⟨w1, hw1⟩ : ∃ w1, w1 = (W.alloc (.cells #[.int .i64 q.k, .int .i64 q.n, .int .i64 q.o, .int .i64 q.t, .slice A q.s.length c] 24)) := ⟨_, rfl⟩
  have hf : Fr (fun _ => False) W w1 := by rw [hw1]; exact ((Fr.refl _ W).alloc _)
  have hb1 : Blk w1 W.heap.size 24 #[.int .i64 q.k, .int .i64 q.n, .int .i64 q.o, .int .i64 q.t, .slice A q.s.length c] := by rw [hw1]; exact (Blk.new _ _ _)
  obtain ⟨bq, hbq⟩ : ∃ b, b = W.heap.size := ⟨_, rfl⟩
  rw [← hbq] at hb1
  have HN := Lib.hid (And.intro (hs.up hf) hnil)
  have HW := Lib.hid (And.intro hw1 hbq)
  have HF := Lib.hid hf
  have HV := Lib.hid hv
  obtain ⟨va, vc, rfl, hll, hat0⟩ := hv
  have HAt := Lib.hid hat0
  unfold maxLen at hll
  have HLong := Lib.hid (along_any (.slice va l.length vc) l _ w1 (HV.out.up hf (fun _ h => h.elim)))
  have hok : ∀ w', Fr (fun _ => False) W w' → Below W.heap.size W w' := fun w' hf => (hf.mono (fun _ _ h => h.elim) : Fr (fun k => W.heap.size ≤ k) W _).below (Nat.le_refl _)
  have HOK := Lib.hid hok
  have b0 := hb1.cell 0 rfl
  have b1 := hb1.cell 1 rfl
  have b2 := hb1.cell 2 rfl
  have b3 := hb1.cell 3 rfl
  have b4 := hb1.cell 4 rfl
  have bf := hb1.frozen
  have HB := Lib.hid hb1
  simp only [Qu.v]
  clear hw1 hbq hf hs hnil hat0 hok hb1
  go_enter Try.func7, Try.ntmps7
  go_upto_region 1 with (fail)
  rw [← HW.out.1, ← HW.out.2]
  clear HW
  by_cases h40 : 40 < q.s.length
  · have h40' : (40 : Int) < (q.s.length : Int) := by omega
    go_wp2_with fail
    refine (known_any w1).mono ?_
    rintro e w3 ⟨rfl, hf3⟩
    have HF3 := Lib.hid (HF.out.tr hf3)
    clear hf3
    go_wp2_with fail
    go_ret
    exact ⟨rfl, HOK.out _ HF3.out⟩
  have h40' : ¬ (40 : Int) < (q.s.length : Int) := by omega
  go_wp2_with fail
  refine HLong.out.mono ?_
  rintro e w3 ⟨b, rfl, rfl, hsh⟩
  cases b with
  | true =>
    go_wp2_with fail
    refine (known_any w1).mono ?_
    rintro e w3 ⟨rfl, hf3⟩
    have HF3 := Lib.hid (HF.out.tr hf3)
    clear hf3
    go_wp2_with fail
    go_ret
    exact ⟨rfl, HOK.out _ HF3.out⟩
  | false =>
    have HSh := Lib.hid (hsh rfl)
    clear hsh HLong
    by_cases hE : rightE q = 0
    · have hs1 := snew_ok q (.slice A q.s.length c) w1 HN.out.1 HN.out.2 (by omega) hE
      have HS2 := Lib.hid (fun (wx : World) (hfx : Fr (fun _ => False) w1 wx) => rfnew_ok q (.slice A q.s.length c) wx (HN.out.1.up hfx) HN.out.2 (by omega) hE)
      have HK := Lib.hid (Kp.new hE (by omega : q.s.length ≤ 1000) Lim)
      simp only [Qu.v] at hs1 HS2
      have HS1 := Lib.hid hs1
      clear hs1 hE
      go_wp2_with fail
      refine HS1.out.mono ?_
      rintro e w2 ⟨r, nb, G, rfl, hR2, hf2⟩
      have b0' := hf2.cell b0 (fun h => h)
      have b1' := hf2.cell b1 (fun h => h)
      have b2' := hf2.cell b2 (fun h => h)
      have b3' := hf2.cell b3 (fun h => h)
      have b4' := hf2.cell b4 (fun h => h)
      have HR2 := Lib.hid (And.intro hR2 hf2)
      clear b0 b1 b2 b3 b4 bf hR2 hf2 HS1
      go_wp2_with fail
      refine (HS2.out _ HR2.out.2).mono ?_
      rintro e w3 ⟨r', nb', G', rfl, hR3, hf3⟩
      have hP0 : PlI W w3 r nb r' nb' 0 := by
        obtain ⟨hR2, hf2⟩ := HR2.out
        have s1 := HF.out.size
        have s2 := hf2.size
        refine ⟨_, _, _, _, _, _, HK.out, ⟨⟨hR2.none_ hf3, fun k hk => by omega, (HF.out.tr hf2).tr hf3⟩, hR3, fun k hk => by omega, fun k hk hk' => by omega⟩⟩
      have HP0 := Lib.hid hP0
      clear b0' b1' b2' b3' b4' hR3 hf3 hP0 HS2 HR2 HK
      go_wp2_with fail
      go_loopg [9] l.length (fun g x9 wr => ∃ i : Nat, i + g = l.length ∧ i ≤ 80 ∧ x9 = .int .i64 i ∧ PlI W wr r nb r' nb' i)
      case atStart => exact ⟨0, by omega, by omega, rfl, HP0.out⟩
      case round =>
        clear HP0
        obtain ⟨i, hi, hi80, rfl, hP⟩ := hrel
        have HI := Lib.hid hi
        have hi' : i ≤ l.length := by omega
        obtain ⟨st, gh, G1, F1, G2, F2, hK, hL⟩ := hP
        clear hi
        by_cases hlt : i < l.length ∧ i < 80
        · obtain ⟨hlt, hlt2⟩ := hlt
          have hlt3 : (i : Int) < 80 := by omega
          obtain ⟨x, hx⟩ : ∃ x, l[i]? = some x := ⟨_, List.getElem?_eq_getElem hlt⟩
          obtain ⟨b, off, vs, rfl, hat⟩ := HAt.out i x hx
          have hxl := HSh.out i x hlt (by omega) hx
          have hat' := hat.up hL.l.fr (fun _ h => h.elim)
          have hboth := both_any W wr r nb st (120 * i) G1 F1 r' nb' (60 * i) G2 F2 x vs hL (fun k => by obtain ⟨g', h1, -⟩ := hK.tk0 (fun _ h => h) k; exact h1.let) hat'.own (fun k hk hne => by have h1 := hat'.ox k hk hne; omega) hxl (by unfold maxLen; omega) (by omega)
          obtain ⟨g2, hK2⟩ := hK.actP (fun _ h => h) x (fun _ h => h)
          obtain ⟨sa, sc, rfl, -, -⟩ := hat'.own
          have q0 := hat'.c0
          have q1 := hat'.c1
          have q2 := hat'.c2
          have HBo := Lib.hid hboth
          have HK2 := Lib.hid hK2
          clear hat hat' hx hboth hL hK hK2
          go_wp2_with fail
          refine HBo.out.mono ?_
          rintro e w4 ⟨rfl, G3, F3, G4, F4, hL4⟩
          have HL4 := Lib.hid hL4
          have HAl := Lib.hid (alike_any r nb (actP st x) _ G3 F3 r' nb' _ G4 F4 w4 hL4.l.rm hL4.rf)
          clear hL4 q0 q1 q2 HBo
          go_wp2_with fail
          refine HAl.out.mono ?_
          rintro e w5 ⟨rfl, hf5⟩
          have HL5 := Lib.hid (HL4.out.up hf5)
          clear hf5 HAl
          go_wp2_with fail
          go_roundg (l.length - (i + 1))
          case measure => have := HI.out; omega
          case rel => exact ⟨i + 1, by have := HI.out; omega, by omega, by go_num, ⟨_, _, _, _, _, _, HK2.out, HL5.out.mono (by omega) (by omega)⟩⟩
        · have hcs : (i < l.length ∧ ¬ (i : Int) < 80) ∨ ¬ (i < l.length) := by omega
          have HFw := Lib.hid hL.l.fr
          clear hL hK hlt
          rcases hcs with ⟨ha, hb⟩ | ha
          all_goals
            go_wp2_with fail
            refine (known_any wr).mono ?_
            rintro e w8 ⟨rfl, hf8⟩
            have HF8 := Lib.hid (HFw.out.tr hf8)
            clear hf8
            go_wp2_with fail
            go_ret
            exact ⟨rfl, HOK.out _ HF8.out⟩
    · have hs1 := snew_bad q (.slice A q.s.length c) w1 HN.out.1 (by omega) hE
      have HS2 := Lib.hid (fun (wx : World) (hfx : Fr (fun _ => False) w1 wx) => rfnew_bad q (.slice A q.s.length c) wx (HN.out.1.up hfx) (by omega) hE)
      simp only [Qu.v] at hs1 HS2
      have HS1 := Lib.hid hs1
      obtain ⟨E, hEe⟩ : ∃ E, E = rightE q := ⟨_, rfl⟩
      rw [← hEe] at HS1 HS2 hE
      clear hs1 hEe
      go_wp2_with fail
      refine HS1.out.mono ?_
      rintro e w2 ⟨rfl, hf2⟩
      have b0' := hf2.cell b0 (fun h => h)
      have b1' := hf2.cell b1 (fun h => h)
      have b2' := hf2.cell b2 (fun h => h)
      have b3' := hf2.cell b3 (fun h => h)
      have b4' := hf2.cell b4 (fun h => h)
      have HR2 := Lib.hid hf2
      clear b0 b1 b2 b3 b4 bf hf2 HS1
      go_wp2_with fail
      refine (HS2.out _ HR2.out).mono ?_
      rintro e w3 ⟨rfl, hf3⟩
      have HF3 := Lib.hid ((HF.out.tr HR2.out).tr hf3)
      have hE1 : (E != 0) = true := by simp [hE]
      clear hf3 HR2 HS2 b0' b1' b2' b3' b4'
      go_wp2_with fail
      refine (known_any w3).mono ?_
      rintro e w4 ⟨rfl, hf4⟩
      have HF4 := Lib.hid (HF3.out.tr hf4)
      clear hf4
      go_wp2_with fail
      go_ret
      exact ⟨rfl, HOK.out _ HF4.out⟩
end Go.Proofs.Ytkpfgoalohbfeaa
