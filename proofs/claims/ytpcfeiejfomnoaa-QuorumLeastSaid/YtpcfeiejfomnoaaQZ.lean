/- The walk of QuorumLeast. -/
import Derived.Test.YtpcfeiejfomnoaaQY
import Derived.Test.YtpcfeiejfomnoaaQL
namespace Go.Proofs.Ytpcfeiejfomnoaa
open Go.RowKit

set_option maxRecDepth 100000 in
set_option maxHeartbeats 8000000 in
theorem least_law (q : Qu) (s : Value) (sec : Bool) (w : World) (hs : Ints w s q.s) :
    Calls Try.prog 3 #[q.v s, .bool sec] w fun e w' => e = .returned (.bool true) ∧ Below w.heap.size w w' := by
  have HM := Lib.hid (many_any q s)
  have H1 := Lib.hid (leasts_any q sec s)
  have H2 := Lib.hid (rleasts_any q sec s)
  have hlen := leastQ_len q sec
  have hsm : ∀ x ∈ leastQ q sec, x < 4096 := fun x h => leastQ_small h
  obtain ⟨w1, bq, hw1, hbq, B⟩ := Qb.start hs
  obtain ⟨L, hL⟩ : ∃ L, L = leastQ q sec := ⟨_, rfl⟩
  rw [← hL] at H1 H2 hlen hsm
  have HSm := Lib.hid hsm
  clear hL hsm
  obtain ⟨k, n, o, t, l⟩ := q
  have hs0 := hs
  obtain ⟨A, c, rfl, -⟩ := hs0
  simp only [Qu.v] at HM H1 H2 hw1 ⊢
  have HW := Lib.hid hw1
  have HB := Lib.hid hbq
  have B' := B
  obtain ⟨hfr, hbk, hit⟩ := B'
  simp only at hbk hit
  have b0 := hbk.cell 0 rfl
  have b1 := hbk.cell 1 rfl
  have b2 := hbk.cell 2 rfl
  have b3 := hbk.cell 3 rfl
  have b4 := hbk.cell 4 rfl
  clear hw1 hbq hs hfr hbk
  go_enter Try.func3, Try.ntmps3
  go_upto_region 1 with (fail)
  rw [← HW.out, ← HB.out]
  clear HW HB
  go_wp2_with fail
  refine (HM.out w1 hit).mono ?_
  rintro e w2 ⟨rfl, hf⟩
  have B := B.up hf
  clear b0 b1 b2 b3 b4 hf hit
  by_cases hl : 40 < l.length
  · rw [decide_eq_true hl]
    go_wp2_with fail
    refine (known_any w2).mono ?_
    rintro e w3 ⟨rfl, hf⟩
    go_wp2_with fail
    go_ret
    exact ⟨rfl, (B.up hf).below⟩
  rw [decide_eq_false hl]
  have hl' : l.length ≤ 1000 := by omega
  have B' := B
  obtain ⟨-, hbk, hit⟩ := B'
  simp only at hbk hit
  have b0 := hbk.cell 0 rfl
  have b1 := hbk.cell 1 rfl
  have b2 := hbk.cell 2 rfl
  have b3 := hbk.cell 3 rfl
  have b4 := hbk.cell 4 rfl
  clear hbk
  go_wp2_with fail
  refine (H1.out w2 hit hl').mono ?_
  rintro e w3 ⟨v, rfl, hrow1, hf⟩
  obtain ⟨va, vc, rfl⟩ := own_sl hrow1
  have B := B.up hf
  clear b0 b1 b2 b3 b4 hf hit
  have B' := B
  obtain ⟨-, hbk, hit⟩ := B'
  simp only at hbk hit
  have b0 := hbk.cell 0 rfl
  have b1 := hbk.cell 1 rfl
  have b2 := hbk.cell 2 rfl
  have b3 := hbk.cell 3 rfl
  have b4 := hbk.cell 4 rfl
  clear hbk
  go_wp2_with fail
  refine (H2.out w3 hit hl').mono ?_
  rintro e w4 ⟨v, rfl, hrow2, hf⟩
  obtain ⟨ua, uc, rfl⟩ := own_sl hrow2
  have B := B.up hf
  have hrow1 := own_fr hrow1 hf (fun _ _ h => h)
  clear b0 b1 b2 b3 b4 hf hit
  have HR := Lib.hid (And.intro hrow1 hrow2)
  have hfb := B.fr
  clear hrow1 hrow2 B
  go_wp2_with fail
  go_loopg [7] L.length (fun g x7 wr => ∃ (i : Nat), i + g = L.length ∧ x7 = .int .i64 i ∧ Fr (fun _ => False) w4 wr)
  case atStart => exact ⟨0, by omega, rfl, Fr.refl _ _⟩
  case round =>
    obtain ⟨i, hi, rfl, hfr⟩ := hrel
    have HI := Lib.hid hi
    have hi' : i ≤ L.length := by omega
    clear hi
    by_cases hlt : i < L.length
    · obtain ⟨x, hx⟩ : ∃ x, L[i]? = some x := ⟨_, List.getElem?_eq_getElem hlt⟩
      obtain ⟨g, rfl, q0⟩ := own_at HR.out.1 hx
      obtain ⟨g', rfl, q1⟩ := own_at HR.out.2 hx
      have q0 := hfr.cell q0 (fun h => h)
      have q1 := hfr.cell q1 (fun h => h)
      clear hx
      go_wp2_with fail
      go_quiet (fail)
      go_wp2_with fail
      go_roundg (L.length - (i + 1))
      case measure => have := HI.out; omega
      case rel => exact ⟨i + 1, by have := HI.out; omega, by go_num, hfr.drewN _⟩
    · obtain rfl : i = L.length := by omega
      have hfin := hfb.tr hfr
      clear hfr
      go_wp2_with fail
      refine (known_any _).mono ?_
      rintro e w9 ⟨rfl, hf⟩
      go_wp2_with fail
      go_ret
      exact ⟨rfl, (hfin.tr hf).none_up.below (Nat.le_refl _)⟩
end Go.Proofs.Ytpcfeiejfomnoaa
