/- A line is opened. -/
import Derived.Test.YtpffmfjphlaiaaaLT
import Derived.Test.YtpffmfjphlaiaaaLY
namespace Go.Proofs.Ytpffmfjphlaiaaa
open Go.RowKit

def st0 (n : Nat) : Ls := { acked := 0, now := 0, S := List.replicate n 0, life := 0, got := 0, E := fun _ => false, n := 0, L := [], apart := false }
theorem win_val (z : Int) (m : Nat) (h1 : 1 ≤ m) (h2 : m ≤ 8) : ∃ k : Nat, 1 ≤ k ∧ k ≤ m ∧ wrap64 (1 + wrap64 ((IntKind.u64.wrap z).tmod (m : Int))) = (k : Int) := by
  obtain ⟨k, hk1, hk2⟩ := at_val z m (by omega) (by omega)
  refine ⟨1 + k, by omega, by omega, ?_⟩
  rw [← IntWalk.i64_left, ← IntWalk.i64_left, hk2, IntKind.wrap_i64]
  omega
theorem apF_false : apF false = fun _ _ => false := by
  funext i j
  unfold apF
  split <;> rfl
theorem RowL.low {w w' : World} {v : Value} {ps : List (List UInt8)} (h : RowL w v ps) (hf : Fr (fun k => w.heap.size ≤ k) w w') : RowL w' v ps := h.up hf (fun k hk => by omega)

set_option maxRecDepth 100000 in
set_option maxHeartbeats 4000000 in
theorem opened_any (z1 z2 : Int) (v : Value) (l : List (List UInt8)) (bd : Nat → List UInt8) (w : World) (hv : RowL w v l) (hl : l.length ≤ 40) (hb : ∀ i y, l[i]? = some y → y.length ≤ 1000 ∧ bd (i + 1) = y) :
    Calls Try.prog 4 #[.int .i64 z1, .int .i64 z2, v] w fun e w' => ∃ a sb rb mb nb win span col, e = .returned (.pointer (some ⟨a, 0, none⟩)) ∧ (1 ≤ win ∧ win ≤ 8) ∧ (1 ≤ span ∧ span ≤ 4) ∧
      LnR w' a sb rb mb nb (st0 l.length) bd win span col ∧ Tr w w' (fun _ => 0) col := by
  obtain ⟨win, hw1, hw2, hw3⟩ := win_val z1 8 (by omega) (by omega)
  obtain ⟨span, hs1, hs2, hs3⟩ := win_val z2 4 (by omega) (by omega)
  have hsn := newsnd_any win span hw1 hw2 hs1 hs2 bd (fun _ => 0) w (fun _ _ => rfl)
  have HS := Lib.hid hsn
  have HV := Lib.hid hv
  have HB := Lib.hid hb
  obtain ⟨A, c, rfl, ⟨hlc, hcm⟩, -⟩ := hv
  unfold maxLen at hcm
  have hli : (l.length : Int) ≤ 40 := by omega
  have HWN := Lib.hid (And.intro hw3 hs3)
  clear hsn hb hw3 hs3
  go_enter Try.func4, Try.ntmps4
  go_wp2_with fail
  rw [show wrap64 (1 + wrap64 ((IntKind.u64.wrap z1).tmod 8)) = (win : Int) from HWN.out.1, show wrap64 (1 + wrap64 ((IntKind.u64.wrap z2).tmod 4)) = (span : Int) from HWN.out.2]
  refine HS.out.mono ?_
  rintro e w1 ⟨sb, col1, rfl, hS1, hR1⟩
  have hrc := newrcv_any bd col1 w1 hR1.cap
  have H1 := Lib.hid (And.intro hS1 hR1)
  have HRc := Lib.hid hrc
  clear hS1 hR1 hrc
  go_wp2_with fail
  refine HRc.out.mono ?_
  rintro e w2 ⟨rb, mb, col2, rfl, hS2, hR2⟩
  have hnw := new_ok 2 w2 (by omega) (by omega)
  have H2 := Lib.hid (And.intro hS2 hR2)
  have HN := Lib.hid hnw
  clear hS2 hR2 hnw
  go_wp2_with fail
  refine HN.out.mono ?_
  rintro e w3 ⟨nb, hnb, rfl, hN3, hf3⟩
  obtain ⟨col3, hcol3⟩ : ∃ col3 : Nat → Nat, col3 = fun k => if k = nb then 3 else col2 k := ⟨_, rfl⟩
  have hR3 : Recol 3 w2 w3 col2 col3 := by
    have hc := H2.out.2.cap
    have hlt : nb < w3.heap.size := by obtain ⟨cs, lv, vs, hB, -⟩ := hN3.ex; exact hB.lt
    have hz := hf3.size
    rw [hcol3]
    exact ⟨fun k hk => by simp [show k ≠ nb by omega], fun k hk => by
      by_cases h : k = nb
      · right; simp [h]
      · left; simp only [if_neg h]; exact hc k hk, fun k hk => by
      simp only [if_neg (show ¬ k = nb by omega)]; exact hc k (by omega), hf3.none_up⟩
  have hN3' : NetR w3 nb 2 ([].map (pkOf bd)) (apF false) (fun k => col3 k = 3) := by
    rw [apF_false]
    exact hN3.cap.up (fun k hk => by rw [hcol3]; simp [hk.1])
  have hS3 : SndR w3 sb 0 0 [] bd win span col3 := (H1.out.1.recol H2.out.2 (by omega) (by omega)).recol hR3 (by omega) (by omega)
  have hC3 : RcvR w3 rb mb 0 0 (fun _ => false) bd 0 col3 := H2.out.1.recol hR3 (by omega) (by omega)
  have hT3 : Tr w w3 (fun _ => 0) col3 := ((H1.out.2.tr_ (by omega)).trans (H2.out.2.tr_ (by omega))).trans (hR3.tr_ (by omega))
  have H3 := Lib.hid (And.intro hN3' (And.intro hS3 (And.intro hC3 (And.intro hT3 hR3))))
  clear hN3' hS3 hC3 hT3 hR3 hcol3 hN3 hf3
  go_wp2_with fail
  go_loopg [13] l.length (fun g x13 wr => ∃ (j : Nat) (col' : Nat → Nat), j + g = l.length ∧ x13 = .int .i64 j ∧ SndR wr sb 0 0 (List.replicate j 0) bd win span col' ∧ Recol 1 w3 wr col3 col')
  case atStart => exact ⟨0, col3, by omega, rfl, H3.out.2.1, Recol.same H3.out.2.2.2.2.cap (Fr.refl _ _)⟩
  case round =>
    obtain ⟨j, col', hj, rfl, hS, hR⟩ := hrel
    obtain ⟨w4, hw4⟩ : ∃ w4, w4 = wr := ⟨_, rfl⟩
    rw [← hw4] at hS hR ⊢
    clear hw4
    have HJ := Lib.hid hj
    have HR := Lib.hid (And.intro hS hR)
    by_cases hjl : j < l.length
    · obtain ⟨y, hy⟩ : ∃ y, l[j]? = some y := ⟨_, List.getElem?_eq_getElem hjl⟩
      have hfa : Fr (fun k => w.heap.size ≤ k) w w4 := (H3.out.2.2.2.1.fr.trans hR.fr (Z := fun k => w.heap.size ≤ k) (fun k hk h => by
        rcases h with h | h
        · exact absurd rfl h
        · have := H3.out.2.2.2.1.keep k hk rfl
          omega))
      obtain ⟨A1, c1, e1, -, h1⟩ := HV.out.low hfa
      obtain ⟨b1, o1, rfl, s1, hat, hby, -, -⟩ := h1 j y hy
      injection e1 with e1 _ e3
      subst e1 e3
      obtain ⟨hyl, hyb⟩ := HB.out j y hy
      have hps := push_any sb 0 0 (List.replicate j 0) bd win span col' s1 w4 hS (by rw [List.length_replicate, show 0 + j + 1 = j + 1 by omega, hyb]; exact hby) (by rw [List.length_replicate, show 0 + j + 1 = j + 1 by omega, hyb]; exact hyl) (by rw [List.length_replicate]; omega)
      have HP := Lib.hid hps
      obtain ⟨sA, sc, rfl, -, -⟩ := hby
      have hj1 : (j : Int) < (l.length : Int) := by omega
      clear hps h1 hy hyb hyl hfa hS hR hj
      go_wp2_with fail
      refine HP.out.mono ?_
      rintro e w5 ⟨rfl, col5, hS5, hR5⟩
      have H5 := Lib.hid (And.intro hS5 hR5)
      clear hS5 hR5 hat
      go_wp2_with fail
      go_roundg (l.length - (j + 1))
      case measure => have := HJ.out; omega
      case rel =>
        refine ⟨j + 1, col5, by have := HJ.out; omega, by go_num, ?_, HR.out.2.trans H5.out.2⟩
        have := H5.out.1
        rw [show List.replicate (j + 1) 0 = List.replicate j 0 ++ [0] from List.replicate_succ']
        exact this
    · obtain rfl : j = l.length := by omega
      clear hS hR hj
      go_wp2_with fail
      go_ret
      obtain ⟨hS4, hR4⟩ := HR.out
      obtain ⟨hN3, -, hC3, hT3, -⟩ := H3.out
      have hN4 := hN3.recol hR4 (by omega)
      have hC4 := hC3.recol hR4 (by omega) (by omega)
      obtain ⟨w5, hw5⟩ : ∃ w5, w5 = w4.alloc (.cells #[.pointer (some ⟨sb, 0, none⟩), .pointer (some ⟨rb, 0, none⟩), .pointer (some ⟨nb, 0, none⟩), .slice none 0 0, .bool false] 34) := ⟨_, rfl⟩
      have hB5 : Blk w5 w4.heap.size 34 #[.pointer (some ⟨sb, 0, none⟩), .pointer (some ⟨rb, 0, none⟩), .pointer (some ⟨nb, 0, none⟩), .slice none 0 0, .bool false] := by rw [hw5]; exact Blk.new _ _ _
      have hz5 : w5.heap.size = w4.heap.size + 1 := by rw [hw5]; simp
      obtain ⟨col5, hcol5⟩ : ∃ col5 : Nat → Nat, col5 = fun k => if k = w4.heap.size then 5 else col' k := ⟨_, rfl⟩
      have hR5 : Recol 5 w4 w5 col' col5 := by
        have hc := hR4.cap
        rw [hcol5]
        exact ⟨fun k hk => by simp [show k ≠ w4.heap.size by omega], fun k hk => by
          by_cases h : k = w4.heap.size
          · right; simp [h]
          · left; simp only [if_neg h]; exact hc k hk, fun k hk => by
          simp only [if_neg (show ¬ k = w4.heap.size by omega)]; exact hc k (by omega), by rw [hw5]; exact (Fr.refl _ w4).alloc _⟩
      refine ⟨w4.heap.size, sb, rb, mb, nb, win, span, col5, rfl, ⟨hw1, hw2⟩, ⟨hs1, hs2⟩, ?_, (hT3.trans (hR4.tr_ (by omega))).trans (by rw [hw5] at hR5; exact hR5.tr_ (by omega))⟩
      rw [← hw5]
      exact ⟨⟨.slice none 0 0, [], hB5, ⟨World.ownsRow_nil _ _ _ _, by simp [Value.ownBlock], by simp⟩⟩, by rw [hcol5]; simp, hS4.recol hR5 (by omega) (by omega), hC4.recol hR5 (by omega) (by omega), hN4.recol hR5 (by omega), hR5.cap⟩
end Go.Proofs.Ytpffmfjphlaiaaa
