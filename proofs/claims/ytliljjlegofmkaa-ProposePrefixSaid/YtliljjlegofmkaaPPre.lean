/- ProposePrefix. -/
import Derived.Test.YtliljjlegofmkaaPT
import Derived.Test.YtliljjlegofmkaaPU
import Derived.Test.YtliljjlegofmkaaPV
import Derived.Deep.LoopGhost
namespace Go.Proofs.Ytliljjlegofmkaa
open Go.RowKit

set_option maxRecDepth 100000 in
set_option maxHeartbeats 8000000 in
theorem prefix_zero (v : Value) (l : List At) (W : World) (hv : AtL W v l (fun k => W.heap.size ≤ k)) :
    Calls Try.prog 6 #[.int .u64 0, v] W fun e w' => e = .returned (.bool true) ∧ Below W.heap.size W w' := by
  obtain ⟨A, c, rfl, -, -⟩ := hv
  go_enter Try.func6, Try.ntmps6
  go_wp2_with fail
  refine (three_any W).mono ?_
  rintro e w1 ⟨rfl, hf1⟩
  go_wp2_with fail
  refine (new_bad Q3 _ 9 0 0 w1 (ints_nil w1) (by decide) q3_right (.inr rfl)).mono ?_
  rintro e w2 ⟨rfl, hf2⟩
  go_wp2_with fail
  refine (known_any w2).mono ?_
  rintro e w3 ⟨rfl, hf3⟩
  go_wp2_with fail
  go_ret
  exact ⟨rfl, (hf1.tr (hf2.tr hf3)).none_up.below (Nat.le_refl _)⟩

set_option maxRecDepth 100000 in
set_option maxHeartbeats 8000000 in
theorem prefix_law (f : Nat) (hf1 : 1 ≤ f) (hf64 : f < 18446744073709551616) (v : Value) (l : List At) (W : World) (hv : AtL W v l (fun k => W.heap.size ≤ k)) :
    Calls Try.prog 6 #[.int .u64 f, v] W fun e w' => e = .returned (.bool true) ∧ Below W.heap.size W w' := by
  obtain ⟨A, c, rfl, hlm, hl⟩ := hv
  unfold maxLen at hlm
  have HL := Lib.hid hl
  clear hl
  have hf0 : ((f : Int) == 0) = false := by simp; omega
  go_enter Try.func6, Try.ntmps6
  go_wp2_with fail
  refine (three_any W).mono ?_
  rintro e w1 ⟨rfl, hf1'⟩
  go_wp2_with fail
  refine (new_lw W w1 hf1'.none_up Q3 _ 9 0 f (ints_nil w1) (fun c h => by injection h with _ _ h; exact h.symm) (by decide) q3_right (by decide) (by omega) hf1 hf64).mono ?_
  rintro e w2 ⟨r, G, rfl, hL, -, -⟩
  clear hf1'
  go_wp2_with fail
  refine (prm_lw0 hL 0 (by decide)).mono ?_
  rintro e w3 ⟨rfl, G3, hL3, -, -⟩
  go_wp2_with fail
  refine (prm_lw0 hL3 1 (by decide)).mono ?_
  rintro e w4 ⟨rfl, G4, hL4, -, -⟩
  go_wp2_with fail
  refine (prefix_any r _ _ _ w4 hL4.pr).mono ?_
  rintro e w5 ⟨⟨a0, ha0, hat, rfl⟩, hf5⟩
  have hL5 := hL4.up hf5
  have hff := Lib.hid (show (prmP (prmP (newP Q3 9 0 f) 0 []) 1 []).f = f by rw [prmP_f, prmP_f]; rfl)
  generalize prmP (prmP (newP Q3 9 0 f) 0 []) 1 [] = p0 at hL5 hat hff
  clear hL hL3 hL4 hf5
  go_wp2_with fail
  go_loopg [7, 8] l.length (fun g x7 x8 wr => ∃ (j a c : Nat) (p : Ps) (G : Nat → Prop), j + g = l.length ∧ x8 = .int .i64 j ∧ x7 = .int .u64 ((a - 1 : Nat) : Int) ∧ a ≤ 18446744073709551616 ∧ PreAt p a ∧ p.f = f ∧ Lw W wr r p c G ∧ c ≤ j)
  case atStart => exact ⟨0, a0, 0, p0, G4, by omega, rfl, rfl, ha0, hat, hff.out, hL5, Nat.le_refl _⟩
  case round =>
    clear hL5 hat hff ha0 p0
    obtain ⟨j, a, cc, p, G, hj, rfl, rfl, ha, hat, hpf, hL, hcj⟩ := hrel
    have HJ := Lib.hid (And.intro hj (And.intro hat hpf))
    have hj' : j ≤ l.length := by omega
    clear hj hat hpf
    by_cases hlt : j < l.length ∧ j < 40
    · obtain ⟨hlt, hlt2⟩ := hlt
      obtain ⟨x, hx⟩ : ∃ x, l[j]? = some x := ⟨_, List.getElem?_eq_getElem hlt⟩
      obtain ⟨b, off, os, vs, rfl, hat⟩ := HL.out j x hx
      have hat' := hat.up hL.fr (fun _ h => h)
      have q1 := hat'.c1
      have q2 := hat'.c2
      have hs64 := hat.s64
      have HAT := Lib.hid hat
      clear hat hx
      have hrem : ((x.s : Int).tmod 8) = ((x.s % 8 : Nat) : Int) := by rw [Int.tmod_eq_emod_of_nonneg (by omega)]; omega
      go_upto_region 13 with (fail)
      obtain ⟨AT, hAT, hA64⟩ : ∃ AT : Nat, IntKind.u64.wrap ((f : Int) + (x.s : Int) % 8) = (AT : Int) ∧ AT < 18446744073709551616 := by
        refine ⟨(f + x.s % 8) % 18446744073709551616, ?_, Nat.mod_lt _ (by omega)⟩
        rw [wrap64u]; omega
      rw [hAT]
      clear hAT
      by_cases hlow : AT < f
      · have hlow' : (AT : Int) < (f : Int) := by omega
        go_wp2_with fail
        refine (known_any wr).mono ?_
        rintro e w6 ⟨rfl, hf6⟩
        go_wp2_with fail
        go_ret
        exact ⟨rfl, hL.none_ hf6⟩
      · have hlow' : ¬ (AT : Int) < (f : Int) := by omega
        go_wp2_with fail
        refine (pro_lw hL AT hA64 _ [] (by unfold maxLen; omega) (byt_nil wr)).mono ?_
        rintro e w6 ⟨va, vc, G5, rfl, -, hL6, -, -, hf6⟩
        simp only [vtV]
        have hat6 := HAT.out.up hL6.fr (fun _ h => h)
        clear q1 q2 hat' hrem
        have q1 := hat6.c1
        clear hL hf6
        go_wp2_with fail
        refine (acc_lw hL6 x.n AT hA64).mono ?_
        rintro e w7 ⟨rfl, hL7, -⟩
        clear hL6 q1 hat6
        go_wp2_with fail
        refine (acc_lw hL7 2 AT hA64).mono ?_
        rintro e w8 ⟨rfl, hL8, -⟩
        clear hL7
        obtain ⟨P5, hP5⟩ : ∃ P5, P5 = accP (accP (proP p AT []) x.n AT) 2 AT := ⟨_, rfl⟩
        rw [← hP5] at hL8
        have hmono : ∀ j, isCh p j = true → isCh P5 j = true := fun j h => by rw [hP5]; exact isCh_acc (isCh_acc (isCh_pro h))
        have hf5 : P5.f = f := by rw [hP5, accP_f, accP_f, proP_f]; exact HJ.out.2.2
        have HM := Lib.hid (And.intro hmono hf5)
        clear hmono hf5 hP5
        go_wp2_with fail
        refine (prefix_any r P5 _ _ w8 hL8.pr).mono ?_
        rintro e w9 ⟨⟨b', hb', hbat, rfl⟩, hf9⟩
        have hL9 := hL8.up hf9
        obtain ⟨kb, hkb⟩ : ∃ kb, kb = b' - 1 := ⟨_, rfl⟩
        rw [← hkb]
        have hab : a ≤ b' := PreAt.le HJ.out.2.1 hbat (by rw [HM.out.2, HJ.out.2.2]) HM.out.1
        have hb1 : 1 ≤ b' := by have := hbat.1; rw [HM.out.2] at this; omega
        have hnl : ¬ (kb : Int) < ((a - 1 : Nat) : Int) := by omega
        have HB := Lib.hid (And.intro hkb (And.intro hbat (And.intro HM.out.2 hb')))
        obtain ⟨B, hB, hB64⟩ : ∃ B : Nat, B = b' % 18446744073709551616 ∧ B < 18446744073709551616 := ⟨_, rfl, Nat.mod_lt _ (by omega)⟩
        have hw1 : IntKind.u64.wrap ((kb : Int) + 1) = (B : Int) := by rw [wrap64u]; omega
        have hkb64 : kb < 18446744073709551616 := by omega
        have HBB := Lib.hid (And.intro hB (And.intro hab hb1))
        clear hL8 hf9 hkb hbat hb' hB hab hb1
        by_cases hB0 : B = 0
        · have hB0' : ((B : Int) != 0) = false := by simp [hB0]
          have hB1' : ((B : Int) == 0) = true := by simp [hB0]
          go_upto_region 25 with (fail)
          clear hB0 hB0' hB1' hw1 hnl hB64 HBB

          by_cases hge : f ≤ kb
          · have hge' : (f : Int) ≤ (kb : Int) := by omega
            go_wp2_with fail
            refine (chosen_any r _ _ G5 kb (by omega) w9 hL9.pr).mono ?_
            rintro e w10 ⟨va2, vc2, rfl, -, hf10⟩
            have hb := HB.out
            have hck : (chB P5 kb).isSome = true := hb.2.1.2.1 kb (by rw [hb.2.2.1]; exact hge) (by omega)
            rw [hck]
            have hL10 := hL9.up hf10
            clear hck hb hf10
            go_wp2_with fail
            go_roundg (l.length - (j + 1))
            case measure => have := HJ.out.1; omega
            case rel =>
              have hb := HB.out
              exact ⟨j + 1, b', cc + 1, P5, G5, by have := HJ.out.1; omega, by go_num, by rw [hb.1], hb.2.2.2, hb.2.1, hb.2.2.1, hL10, by omega⟩
          · have hge' : ¬ (f : Int) ≤ (kb : Int) := by omega
            go_wp2_with fail
            go_roundg (l.length - (j + 1))
            case measure => have := HJ.out.1; omega
            case rel =>
              have hb := HB.out
              exact ⟨j + 1, b', cc + 1, P5, G5, by have := HJ.out.1; omega, by go_num, by rw [hb.1], hb.2.2.2, hb.2.1, hb.2.2.1, hL9, by omega⟩

        · have hB0' : ((B : Int) != 0) = true := by simp; omega
          have hB1' : ((B : Int) == 0) = false := by simp; omega
          go_upto_region 22 with (fail)
          go_wp2_with fail
          refine (chosen_any r P5 _ _ B hB64 w9 hL9.pr).mono ?_
          rintro e w11 ⟨va1, vc1, rfl, -, hf11⟩
          have hcB : (chB P5 B).isSome = false := by
            have h1 := HB.out
            have h2 := HBB.out.1
            have : B = b' := by omega
            rw [this]
            exact h1.2.1.2.2
          rw [hcB]
          have hL11 := hL9.up hf11
          clear hcB hf11 hL9
          go_upto_region 25 with (fail)
          clear hB0 hB0' hB1' hw1 hnl hB64 HBB

          by_cases hge : f ≤ kb
          · have hge' : (f : Int) ≤ (kb : Int) := by omega
            go_wp2_with fail
            refine (chosen_any r _ _ G5 kb (by omega) w11 hL11.pr).mono ?_
            rintro e w10 ⟨va2, vc2, rfl, -, hf10⟩
            have hb := HB.out
            have hck : (chB P5 kb).isSome = true := hb.2.1.2.1 kb (by rw [hb.2.2.1]; exact hge) (by omega)
            rw [hck]
            have hL10 := hL11.up hf10
            clear hck hb hf10
            go_wp2_with fail
            go_roundg (l.length - (j + 1))
            case measure => have := HJ.out.1; omega
            case rel =>
              have hb := HB.out
              exact ⟨j + 1, b', cc + 1, P5, G5, by have := HJ.out.1; omega, by go_num, by rw [hb.1], hb.2.2.2, hb.2.1, hb.2.2.1, hL10, by omega⟩
          · have hge' : ¬ (f : Int) ≤ (kb : Int) := by omega
            go_wp2_with fail
            go_roundg (l.length - (j + 1))
            case measure => have := HJ.out.1; omega
            case rel =>
              have hb := HB.out
              exact ⟨j + 1, b', cc + 1, P5, G5, by have := HJ.out.1; omega, by go_num, by rw [hb.1], hb.2.2.2, hb.2.1, hb.2.2.1, hL11, by omega⟩

    · by_cases hlt' : j < l.length
      · have h40 : ¬ (j : Int) < 40 := by omega
        go_wp2_with fail
        refine (known_any wr).mono ?_
        rintro e w6 ⟨rfl, hf6⟩
        go_wp2_with fail
        go_ret
        exact ⟨rfl, hL.none_ hf6⟩
      · obtain rfl : j = l.length := by omega
        go_wp2_with fail
        refine (known_any wr).mono ?_
        rintro e w6 ⟨rfl, hf6⟩
        go_wp2_with fail
        go_ret
        exact ⟨rfl, hL.none_ hf6⟩
theorem prefix_all (f : Nat) (hf64 : f < 18446744073709551616) (v : Value) (l : List At) (W : World) (hv : AtL W v l (fun k => W.heap.size ≤ k)) :
    Calls Try.prog 6 #[.int .u64 f, v] W fun e w' => e = .returned (.bool true) ∧ Below W.heap.size W w' := by
  by_cases h : f = 0
  · subst h; exact prefix_zero v l W hv
  · exact prefix_law f (by omega) hf64 v l W hv
end Go.Proofs.Ytliljjlegofmkaa
