/- A system of quorums as it comes in. -/
import Derived.Test.YtpcfeiejfomnoaaQA
import Derived.OpenShut
import Derived.Deep.Slices
import Derived.Deep.Fields
namespace Go.Proofs.Ytpcfeiejfomnoaa
open Go.RowKit Go.ChangeShapes Go.WideShapes Go.Deep
theorem u32_of {n : Int} (h : (Lit.int .u32 n).wf = true) : 0 ≤ n ∧ n < 4294967296 := by
  simp [Lit.wf, IntKind.min, IntKind.max, IntKind.signed, IntKind.bits] at h; exact ⟨by omega, by omega⟩
theorem i64_of {n : Int} (h : (Lit.int .i64 n).wf = true) : -9223372036854775808 ≤ n ∧ n ≤ 9223372036854775807 := by
  simp [Lit.wf, IntKind.min, IntKind.max, IntKind.signed, IntKind.bits] at h; exact ⟨by omega, by omega⟩
section
variable {H : Type} {enc : TypeId × Value → H} {w : World} {base : Nat} {spare : Nat → Bool} {held : Bool}

theorem trod_ints {fuel : Nat} {cs : List Value} {x : DataW H × List MemPlace} (h : DataW.trod enc Try.prog w base spare held fuel 22 cs = some x) :
    ∃ s l, cs = [s] ∧ Ints w s l ∧ l.length ≤ maxLen := by
  rcases open_ints Try.underlying22 Try.underlying3 (by kernel_rfl) h with ⟨rfl, _⟩ | ⟨a, len, cap, zs, rfl, _, hl, hm, hz, _, hcell, hw⟩
  · exact ⟨_, [], rfl, ⟨none, 0, rfl, fun h => absurd rfl h⟩, by simp⟩
  · have hzl : len ≤ zs.length := by rw [hz]; split <;> omega
    have hlen : (zs.take len).length = len := by simp; omega
    refine ⟨_, zs.take len, rfl, ⟨some a, cap, by rw [hlen], fun hne => ?_⟩, by rw [hlen]; omega⟩
    have hpos : 0 < len := by
      rcases Nat.eq_zero_or_pos len with h0 | h0
      · subst h0; simp at hne
      · exact h0
    obtain ⟨b, off, rfl, hc⟩ := ints_at hcell (by omega)
    refine ⟨b, off, rfl, fun i z hzi => ?_⟩
    have hi : i < len := by have := (List.getElem?_eq_some_iff.1 hzi).1; omega
    rw [List.getElem?_take, if_pos hi] at hzi
    rw [hc i (by omega), List.getD_eq_getElem?_getD, hzi]
    rfl

theorem trod_qu {fuel : Nat} {cs : List Value} {x : DataW H × List MemPlace} (h : DataW.trod enc Try.prog w base spare held fuel 24 cs = some x) :
    ∃ (q : Qu) (s : Value), cs = [.int .i64 q.k, .int .i64 q.n, .int .i64 q.o, .int .i64 q.t, s] ∧ Ints w s q.s ∧ q.s.length ≤ maxLen := by
  obtain ⟨xs, n, _, hx, hlen, hxl, hf⟩ := DataW.trod_struct Try.underlying24 h
  have hl5 : cs.length = 5 := hlen.trans (by kernel_rfl)
  match cs, hl5 with
  | [c0, c1, c2, c3, c4], _ =>
    have g0 := hf 0 _ rfl
    have g1 := hf 1 _ rfl
    have g2 := hf 2 _ rfl
    have g3 := hf 3 _ rfl
    have g4 := hf 4 _ rfl
    have l5 : xs.length = 5 := hxl.trans rfl
    match xs, l5 with
    | [y0, y1, y2, y3, y4], _ =>
      have e0 : DataW.trod enc Try.prog w base spare held n 3 [c0] = some y0 := g0
      have e1 : DataW.trod enc Try.prog w base spare held n 3 [c1] = some y1 := g1
      have e2 : DataW.trod enc Try.prog w base spare held n 3 [c2] = some y2 := g2
      have e3 : DataW.trod enc Try.prog w base spare held n 3 [c3] = some y3 := g3
      have e4 : DataW.trod enc Try.prog w base spare held n 22 [c4] = some y4 := g4
      obtain ⟨k, hc0, _, wf0⟩ := DataW.trod_int Try.underlying3 e0
      obtain ⟨n', hc1, _, wf1⟩ := DataW.trod_int Try.underlying3 e1
      obtain ⟨o, hc2, _, wf2⟩ := DataW.trod_int Try.underlying3 e2
      obtain ⟨t, hc3, _, wf3⟩ := DataW.trod_int Try.underlying3 e3
      obtain ⟨s, l, hc4, hb, hbl⟩ := trod_ints e4
      injection hc0 with hc0 _
      injection hc1 with hc1 _
      injection hc2 with hc2 _
      injection hc3 with hc3 _
      injection hc4 with hc4 _
      subst hc0 hc1 hc2 hc3 hc4
      exact ⟨⟨k, n', o, t, l⟩, c4, rfl, hb, hbl⟩
end
end Go.Proofs.Ytpcfeiejfomnoaa
