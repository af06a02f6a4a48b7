/- SameLists; a line is opened. -/
import Derived.Test.YtpffmfjphlaiaaaLO
import Derived.Test.YtpffmfjphlaiaaaLW
namespace Go.Proofs.Ytpffmfjphlaiaaa
open Go.RowKit

/-- Rows of bytes as they read now. -/
def RowB (w : World) (v : Value) (ps : List (List UInt8)) : Prop := ∃ A c, v = .slice A ps.length c ∧ (ps.length ≤ c ∧ c ≤ maxLen) ∧ ∀ i y, ps[i]? = some y → ∃ b off s, A = some ⟨b, off, none⟩ ∧ w.cell? ⟨b, off + i, none⟩ = some s ∧ Byt w s y
theorem RowL.b {w : World} {v : Value} {ps : List (List UInt8)} (h : RowL w v ps) : RowB w v ps := by
  obtain ⟨A, c, h1, h2, h3⟩ := h
  exact ⟨A, c, h1, h2, fun i y hy => by
    obtain ⟨b, off, h4, s, h5, h6, -, -⟩ := h3 i y hy
    exact ⟨b, off, s, h4, h5, h6⟩⟩
theorem OutR.b {w : World} {lv : Value} {got : Nat} {vs : List Value} {bd : Nat → List UInt8} {col : Nat → Nat} (h : OutR w lv got vs bd col) : RowB w lv ((List.range got).map fun i => bd (i + 1)) := by
  have hl := h.row.1
  rcases own_form h.row with ⟨rfl, rfl, -⟩ | ⟨g, cap, cur, rfl, -, hb, h1, h2, -⟩
  · exact ⟨none, 0, rfl, ⟨by simp, by simp [maxLen]⟩, fun i y hy => by simp at hy⟩
  · refine ⟨some ⟨g, 0, none⟩, cap, by simp, ⟨by simpa using h1, h2⟩, fun i y hy => ?_⟩
    have hi : i < got := by have := (List.getElem?_eq_some_iff.1 hy).1; simpa using this
    rw [List.getElem?_map, List.getElem?_range hi] at hy
    simp only [Option.map_some, Option.some.injEq] at hy
    subst hy
    obtain ⟨s, hs⟩ : ∃ s, vs[i]? = some s := ⟨_, List.getElem?_eq_getElem (by omega)⟩
    refine ⟨g, 0, s, rfl, ?_, (h.body i s hs).1⟩
    rw [Nat.zero_add]
    exact own_cell h.row i hs
theorem RowB.fr0 {w w' : World} {v : Value} {ps : List (List UInt8)} (h : RowB w v ps) (hf : Fr (fun _ => False) w w') : RowB w' v ps := by
  obtain ⟨A, c, h1, h2, h3⟩ := h
  exact ⟨A, c, h1, h2, fun i y hy => by
    obtain ⟨b, off, s, h4, h5, h6⟩ := h3 i y hy
    exact ⟨b, off, s, h4, hf.cell h5 (fun h => h), h6.fr hf (fun _ _ h => h)⟩⟩
theorem str_tt (a : List UInt8) : ((strOf a).toList != (strOf a).toList) = false := by simp

set_option maxRecDepth 100000 in
set_option maxHeartbeats 4000000 in
theorem lists_any (a b : Value) (l : List (List UInt8)) (w : World) (ha : RowB w a l) (hb : RowB w b l) :
    Calls Try.prog 6 #[a, b] w fun e w' => e = .returned (.bool true) ∧ ∃ m, w' = w.drewN m := by
  have HA := Lib.hid ha
  have HB := Lib.hid hb
  obtain ⟨A, c, rfl, ⟨hla, hca⟩, -⟩ := ha
  obtain ⟨B, d, rfl, ⟨hlb, hcb⟩, -⟩ := hb
  unfold maxLen at hca hcb
  have hl' : ((l.length : Int) != (l.length : Int)) = false := by simp
  go_enter Try.func6, Try.ntmps6
  go_wp2_with fail
  clear hl'
  go_loopg [5] l.length (fun g x5 wr => ∃ (j : Nat), j + g = l.length ∧ x5 = .int .i64 j ∧ ∃ m, wr = w.drewN m)
  case atStart => exact ⟨0, by omega, rfl, 0, rfl⟩
  case round =>
    obtain ⟨j, hj, rfl, m, hwr⟩ := hrel
    have hfr : Fr (fun _ => False) w wr := by rw [hwr]; exact (Fr.refl _ w).drewN m
    have HM := Lib.hid hwr
    clear hwr
    have HJ := Lib.hid hj
    have hj' : j ≤ l.length := by omega
    clear hj
    by_cases hlt : j < l.length
    · obtain ⟨p, hp⟩ : ∃ p, l[j]? = some p := ⟨_, List.getElem?_eq_getElem hlt⟩
      obtain ⟨A1, c1, e1, -, h1⟩ := HA.out.fr0 hfr
      obtain ⟨b1, o1, s1, rfl, hat, hby⟩ := h1 j p hp
      injection e1 with e1 _ e3
      subst e1 e3
      obtain ⟨A2, c2, e2, -, h2⟩ := HB.out.fr0 hfr
      obtain ⟨b2, o2, s2, rfl, hat2, hby2⟩ := h2 j p hp
      injection e2 with e2 _ e3
      subst e2 e3
      have hj0 : (0 : Int) ≤ (j : Int) := by omega
      have hj1 : (j : Int) < (l.length : Int) := by omega
      have kc1 := fun n => run_str (P := Try.prog) (w := wr.drewN n) (src := 24) (dst := 9) Try.underlying24 Try.underlying5 Try.underlying9 (hby.drewN n)
      have kc2 := fun n => run_str (P := Try.prog) (w := wr.drewN n) (src := 24) (dst := 9) Try.underlying24 Try.underlying5 Try.underlying9 (hby2.drewN n)
      obtain ⟨S, hS⟩ : ∃ S, S = strOf p := ⟨_, rfl⟩
      rw [← hS] at kc1 kc2
      clear h1 h2 hp hby hby2 hS hfr
      go_upto_region 6 with (fail)
      go_quiet (fail)
      go_wp2_with fail
      go_roundg (l.length - (j + 1))
      case measure => have := HJ.out; omega
      case rel => exact ⟨j + 1, by have := HJ.out; omega, by go_num, _, by rw [HM.out]; exact World.drewN_drewN _ _ _⟩
    · obtain rfl : j = l.length := by omega
      go_wp2_with fail
      go_ret
      exact ⟨rfl, m, HM.out⟩
end Go.Proofs.Ytpffmfjphlaiaaa
