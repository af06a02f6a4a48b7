/- is, there, sees, all. -/
import Derived.Test.YtkpfgoalohbfeaaSD
import Derived.Carry
namespace Go.Proofs.Ytkpfgoalohbfeaa
open Go.RowKit

section
variable {w w' : World} {r nb c : Nat} {st : Sy} {G F : Nat → Prop} {sv lv : Value} {cs : Array Value} {nv : Nat → Nv} {mv : List Value} {Gp : Nat → Nat → Prop}
theorem Rm.cells (h : Rm w r nb st c G F) : ∃ sv la lc, w.cell? ⟨r, 0, none⟩ = some (.int .i64 st.q.k) ∧ w.cell? ⟨r, 1, none⟩ = some (.int .i64 st.q.n) ∧ w.cell? ⟨r, 2, none⟩ = some (.int .i64 st.q.o) ∧ w.cell? ⟨r, 3, none⟩ = some (.int .i64 st.q.t) ∧
    w.cell? ⟨r, 4, none⟩ = some sv ∧ w.cell? ⟨r, 5, none⟩ = some (.slice (some ⟨nb, 0, none⟩) st.N st.N) ∧ w.cell? ⟨r, 6, none⟩ = some (.slice la st.l.length lc) := by
  obtain ⟨sv, lv, cs, nv, mv, Gp, h⟩ := h
  obtain ⟨la, lc, rfl⟩ := own_sl5 h.lrow
  exact ⟨sv, la, lc, h.blk.cell 0 rfl, h.blk.cell 1 rfl, h.blk.cell 2 rfl, h.blk.cell 3 rfl, h.blk.cell 4 rfl, h.blk.cell 5 rfl, h.blk.cell 6 rfl⟩
end
theorem is_any' (r nb : Nat) (st : Sy) (c : Nat) (G F : Nat → Prop) (a : Int) (w : World) (h : Rm w r nb st c G F) :
    Calls Try.prog 34 #[.pointer (some ⟨r, 0, none⟩), .int .i64 a] w fun e w' => e = .returned (.bool (inSy st a)) ∧ w = w' := by
  obtain ⟨sv, la, lc, -, -, -, -, -, r5, -⟩ := h.cells
  have hN := h.wf.n12.2.2
  have hb : inSy st a = decide (0 ≤ a ∧ a < (st.N : Int)) := by unfold inSy; rw [hN]
  have HB := Lib.hid hb
  clear h hb hN
  go_enter Try.func34, Try.ntmps34
  by_cases h0 : 0 ≤ a
  · by_cases h1 : a < (st.N : Int)
    · have hb : inSy st a = true := by rw [HB.out]; exact decide_eq_true ⟨h0, h1⟩
      have HT := Lib.hid hb
      clear hb
      go_wp2_with fail
      go_ret
      exact ⟨by rw [HT.out]; rfl, rfl⟩
    · have hb : inSy st a = false := by rw [HB.out]; exact decide_eq_false (by omega)
      have HT := Lib.hid hb
      clear hb
      go_wp2_with fail
      go_ret
      exact ⟨by rw [HT.out]; rfl, rfl⟩
  · have hb : inSy st a = false := by rw [HB.out]; exact decide_eq_false (by omega)
    have HT := Lib.hid hb
    clear hb
    go_wp2_with fail
    go_ret
    exact ⟨by rw [HT.out]; rfl, rfl⟩
def thereB (st : Sy) (a : Int) : Bool := (st.atL a).isSome
theorem thereB_eq (st : Sy) (a : Int) : thereB st a = decide (0 ≤ a ∧ a < (st.l.length : Int)) := by
  unfold thereB Sy.atL
  by_cases h0 : 0 ≤ a
  · rw [if_pos h0]
    by_cases h1 : a < (st.l.length : Int)
    · rw [decide_eq_true ⟨h0, h1⟩, List.getElem?_eq_getElem (by omega)]; rfl
    · rw [decide_eq_false (by omega), List.getElem?_eq_none (by omega)]; rfl
  · rw [if_neg h0, decide_eq_false (by omega)]; rfl
theorem there_any (r nb : Nat) (st : Sy) (c : Nat) (G F : Nat → Prop) (a : Int) (w : World) (h : Rm w r nb st c G F) :
    Calls Try.prog 35 #[.pointer (some ⟨r, 0, none⟩), .int .i64 a] w fun e w' => e = .returned (.bool (thereB st a)) ∧ w = w' := by
  obtain ⟨sv, la, lc, -, -, -, -, -, -, r6⟩ := h.cells
  have HB := Lib.hid (thereB_eq st a)
  clear h
  go_enter Try.func35, Try.ntmps35
  by_cases h0 : 0 ≤ a
  · by_cases h1 : a < (st.l.length : Int)
    · have HT := Lib.hid (show thereB st a = true by rw [HB.out]; exact decide_eq_true ⟨h0, h1⟩)
      go_wp2_with fail
      go_ret
      exact ⟨by rw [HT.out]; rfl, rfl⟩
    · have HT := Lib.hid (show thereB st a = false by rw [HB.out]; exact decide_eq_false (by omega))
      go_wp2_with fail
      go_ret
      exact ⟨by rw [HT.out]; rfl, rfl⟩
  · have HT := Lib.hid (show thereB st a = false by rw [HB.out]; exact decide_eq_false (by omega))
    go_wp2_with fail
    go_ret
    exact ⟨by rw [HT.out]; rfl, rfl⟩

set_option maxRecDepth 100000 in
set_option maxHeartbeats 4000000 in
theorem sees_any (nb o : Nat) (s : Nat) (n : Nat) (d : Int) (cs : Array Value) (w : World) (hB : Blk w nb 80 cs) (hs : cs[o + 6]? = some (.int .u64 (s : Int))) :
    Calls Try.prog 57 #[.pointer (some ⟨nb, o, none⟩), .agg #[.int .u64 (n : Int), .int .i64 d]] w fun e w' => e = .returned (.tuple #[]) ∧ Blk w' nb 80 (cs.setIfInBounds (o + 6) (.int .u64 ((max s n : Nat) : Int))) ∧ Fr (fun k => k = nb) w w' := by
  obtain ⟨w1, hw1⟩ : ∃ w1, w1 = w.alloc (.cells #[.int .u64 (n : Int), .int .i64 d] 44) := ⟨_, rfl⟩
  have hf1 : Fr (fun _ => False) w w1 := by rw [hw1]; exact (Fr.refl _ w).alloc _
  have hM1 : Blk w1 w.heap.size 44 #[.int .u64 (n : Int), .int .i64 d] := by rw [hw1]; exact Blk.new _ _ _
  have hB1 := hB.fr hf1 (fun h => h)
  have hnb := hB.lt
  have HW1 := Lib.hid hw1
  clear hw1
  obtain ⟨M, hM⟩ : ∃ M, M = max s n := ⟨_, rfl⟩
  rw [← hM]
  have HM := Lib.hid hM
  have HN := Lib.hid hnb
  go_enter Try.func57, Try.ntmps57
  go_upto_region 1 with (fail)
  rw [← HW1.out]
  clear HW1 hM hnb hB
  have c0 := hM1.cell 0 rfl
  have s6 : w1.cell? ⟨nb, o + 6, none⟩ = some (.int .u64 (s : Int)) := hB1.cell _ hs
  have sf : w1.frozen? ⟨nb, o + 6, none⟩ = false := hB1.frozen _
  have hd := (Fr.refl (fun _ => False) w1).drew
  have fin : ∀ (z : Int), z = (M : Int) → Blk (w1.setCell ⟨nb, o + 6, none⟩ (.int .u64 z)).drew nb 80 (cs.setIfInBounds (o + 6) (.int .u64 (M : Int))) ∧ Fr (fun k => k = nb) w (w1.setCell ⟨nb, o + 6, none⟩ (.int .u64 z)).drew := fun z hz => by
    subst hz
    exact ⟨(hB1.set_ (o + 6) _).drew, (Fr.setCell (X := fun k => k = nb) hf1.none_up (p := ⟨nb, o + 6, none⟩) (fun _ => rfl) _).drew⟩
  have HF := Lib.hid fin
  clear fin
  rcases Nat.lt_trichotomy n s with hc | hc | hc
  · have hMs : M = s := by rw [HM.out]; omega
    have hcd : ¬ (s < n) := by omega
    have hcd' : ¬ (s : Int) < (n : Int) := by omega
    have HMs := Lib.hid hMs
    clear hMs
    go_region
    all_goals
      exact bodyPost_end (results_none rfl _ _ _) rfl ⟨rfl, HF.out _ (by rw [HMs.out])⟩
  · have hMs : M = s := by rw [HM.out]; omega
    subst hc
    have HMs := Lib.hid hMs
    clear hMs
    go_region
    all_goals
      exact bodyPost_end (results_none rfl _ _ _) rfl ⟨rfl, HF.out _ (by rw [HMs.out]; try simp)⟩
  · have hMs : M = n := by rw [HM.out]; omega
    have hcd' : (s : Int) < (n : Int) := by omega
    have HMs := Lib.hid hMs
    clear hMs
    go_region
    all_goals
      exact bodyPost_end (results_none rfl _ _ _) rfl ⟨rfl, HF.out _ (by rw [HMs.out]; try simp [hc])⟩

set_option maxRecDepth 100000 in
set_option maxHeartbeats 4000000 in
theorem all_any (r nb : Nat) (st : Sy) (c : Nat) (G F : Nat → Prop) (m : Lt) (v : Value) (w : World) (h : Rm w r nb st c G F) (hm : ∀ i, i < st.N → LWf st.N { m with dst := i }) (hv : VtL w v m.vs G) :
    Calls Try.prog 38 #[.pointer (some ⟨r, 0, none⟩), mailV m v] w fun e w' => e = .returned (.tuple #[]) ∧ RmTo w r nb (allS st m st.N) c G F w' := by
  have hvl := hv
  obtain ⟨⟨A, vc, rfl, -⟩, -⟩ := hvl
  obtain ⟨w1, hw1⟩ : ∃ w1, w1 = w.alloc (.cells #[.int .i64 m.k, .int .i64 (m.fr : Int), .int .i64 (m.dst : Int), .int .u64 (m.n : Int), .int .i64 m.d, .slice A m.vs.length vc] 68) := ⟨_, rfl⟩
  have hf1 : Fr (fun _ => False) w w1 := by rw [hw1]; exact (Fr.refl _ w).alloc _
  have hM1 : Blk w1 w.heap.size 68 #[.int .i64 m.k, .int .i64 (m.fr : Int), .int .i64 (m.dst : Int), .int .u64 (m.n : Int), .int .i64 m.d, .slice A m.vs.length vc] := by rw [hw1]; exact Blk.new _ _ _
  obtain ⟨bm, hbm⟩ : ∃ b, b = w.heap.size := ⟨_, rfl⟩
  rw [← hbm] at hM1
  have h1 := h.none_ hf1
  have hv0 := hv.lt
  have hv1 := hv.up hf1 (fun _ h => h.elim)
  have hFl := h.lt
  have hGF := h.GF
  have hN12 := h.wf.n12.2.1
  have HL := Lib.hid (And.intro hFl (And.intro hGF (And.intro hbm (And.intro hm hf1))))
  have HW1 := Lib.hid (And.intro hw1 hbm)
  obtain ⟨sv, la, lc, -, -, -, -, -, r5, -⟩ := h1.cells
  have HH := Lib.hid (And.intro h1 (And.intro hv1 hM1))
  have hnF : ¬ F bm := fun hF => by have := hFl bm hF; omega
  have hbm1 := hM1.lt
  have HLV := Lib.hid hv0
  clear hv0
  simp only [mailV]
  clear h hm hv hw1 hbm hv1 hFl hGF hf1
  go_enter Try.func38, Try.ntmps38
  go_upto_region 1 with (fail)
  rw [← HW1.out.1, ← HW1.out.2]
  clear HW1 h1 hM1
  go_wp2_with fail
  go_loopg [4, 10] st.N (fun g x4 x10 wr => ∃ (j t0 : Nat) (Gj Fj : Nat → Prop), j + g = st.N ∧ x10 = .int .i64 j ∧ Rm wr r nb (allS st m j) c Gj Fj ∧ ¬ Fj bm ∧ Nx G Gj w wr ∧ Nx F Fj w wr ∧ Fr G w wr ∧
    Blk wr bm 68 #[.int .i64 m.k, .int .i64 (m.fr : Int), .int .i64 (t0 : Int), .int .u64 (m.n : Int), .int .i64 m.d, .slice A m.vs.length vc])
  case atStart => exact ⟨0, m.dst, G, F, by omega, rfl, HH.out.1, hnF, Nx.refl _ _ _, Nx.refl _ _ _, HL.out.2.2.2.2.none_up, HH.out.2.2⟩
  case round =>
    obtain ⟨j, t0, Gj, Fj, hj, rfl, hR, hbF, hnG, hnF', hfr, hM⟩ := hrel
    have HJ := Lib.hid hj
    have hj' : j ≤ st.N := by omega
    clear hj
    by_cases hjN : j < st.N
    · obtain ⟨w2, hw2⟩ : ∃ w2, w2 = wr.setCell ⟨bm, 2, none⟩ (.int .i64 (j : Int)) := ⟨_, rfl⟩
      have hf2 : Fr (fun k => k = bm) wr w2 := by rw [hw2]; exact Fr.set1 _ _ _ _
      have hM2 : Blk w2 bm 68 #[.int .i64 m.k, .int .i64 (m.fr : Int), .int .i64 (j : Int), .int .u64 (m.n : Int), .int .i64 m.d, .slice A m.vs.length vc] := by rw [hw2]; simpa using hM.set_ 2 (.int .i64 (j : Int))
      have hR2 := hR.fr hf2 (fun k hk e => hbF (e ▸ hk))
      have hv2 : VtL w2 (.slice A m.vs.length vc) m.vs Gj := by
        have h5 := HLV.out.up hfr (fun k hk => .inl hk)
        refine (h5.up hf2 (fun k hk => .inr (by have := HL.out.2.2.1; omega))).mono (fun k hk => ?_)
        rcases hnG k hk with h6 | h6
        · exact .inl h6
        · exact .inr h6.1
      have m2 := hM.cell 2 rfl
      have mf := hM.frozen 2
      have HW2 := Lib.hid hw2
      have H2 := Lib.hid (And.intro hR2 (And.intro hv2 (And.intro hM2 (And.intro hf2 (And.intro hnG (And.intro hnF' hfr))))))
      clear hw2 hf2 hM hR hR2 hv2 hnG hnF' hfr
      go_upto_region 5 with (fail)
      rw [← HW2.out]
      clear HW2 m2 mf
      have m0 := hM2.cell 0 rfl
      have m1 := hM2.cell 1 rfl
      have m2 := hM2.cell 2 rfl
      have m3 := hM2.cell 3 rfl
      have m4 := hM2.cell 4 rfl
      have m5 := hM2.cell 5 rfl
      clear hM2
      go_wp2_with fail
      refine (send_any r nb (allS st m j) c Gj Fj Gj { m with dst := j } _ w2 H2.out.1 (by rw [allS_N]; exact HL.out.2.2.2.1 j hjN) H2.out.2.1).mono ?_
      rintro e w3 ⟨rfl, hT⟩
      have HT := Lib.hid hT
      clear hT m0 m1 m2 m3 m4 m5
      go_wp2_with fail
      go_roundg (st.N - (j + 1))
      case measure => have := HJ.out; omega
      case rel =>
        obtain ⟨hR2, hv2, hM2, hf2, hnG, hnF', hfr⟩ := H2.out
        obtain ⟨G3, F3, hR3, hn3, hnf3, hfr3⟩ := HT.out
        have hbw := HL.out.2.2.1
        have hbm2 := hM2.lt
        have hs1 := hfr.size
        have hs2 := hf2.size
        have hs3 := hfr3.size
        have hGb : ¬ Gj bm := fun hb => hbF (hR2.GF bm hb)
        refine ⟨j + 1, j, G3, F3, by have := HJ.out; omega, by go_num, hR3, fun hb => ?_, fun k hk => ?_, fun k hk => ?_, ?_, hM2.fr hfr3 hGb⟩
        · rcases hnf3 bm hb with h5 | h5
          · exact hbF h5
          · omega
        · rcases hn3 k hk with h5 | h5
          · rcases hnG k h5 with h6 | h6
            · exact .inl h6
            · exact .inr (by omega)
          · exact .inr (by omega)
        · rcases hnf3 k hk with h5 | h5
          · rcases hnF' k h5 with h6 | h6
            · exact .inl h6
            · exact .inr (by omega)
          · exact .inr (by omega)
        · exact (hfr.trans hf2 (fun k hk h => h.elim id (fun e => by omega))).trans hfr3 (fun k hk h => h.elim id (fun hg => (hnG k hg).elim id (fun h => by omega)))
    · obtain rfl : j = st.N := by omega
      have HR := Lib.hid (And.intro hR (And.intro hnG (And.intro hnF' hfr)))
      clear hR hnG hnF' hfr hM
      go_wp2_with fail
      refine bodyPost_end (results_none rfl _ _ _) rfl ⟨rfl, ?_⟩
      exact ⟨Gj, Fj, HR.out⟩
end Go.Proofs.Ytkpfgoalohbfeaa
