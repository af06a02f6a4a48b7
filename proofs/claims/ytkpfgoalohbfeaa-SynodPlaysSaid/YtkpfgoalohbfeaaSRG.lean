/- second of the document's room. -/
import Derived.Test.YtkpfgoalohbfeaaSRF
namespace Go.Proofs.Ytkpfgoalohbfeaa
open Go.RowKit

/-- What Propose leaves, its vote in a block. -/
def RProTo (ri : Nat) (G : Nat → Prop) (w : World) (rs : Rs) (own : List UInt8) (x8 : Value) (wr : World) : Prop :=
  ∃ o bv pa pc G5, BestR rs.L 1 o ∧ x8 = .pointer (some ⟨bv, 0, none⟩) ∧ Blk wr bv 46 #[.int .u64 (rproV rs 1 own o).s, .int .u64 (rproV rs 1 own o).n, .int .i64 (rproV rs 1 own o).d, .slice pa (rproV rs 1 own o).v.length pc] ∧
    Byt wr (.slice pa (rproV rs 1 own o).v.length pc) (rproV rs 1 own o).v ∧ (∀ j, (Value.slice pa (rproV rs 1 own o).v.length pc).ownBlock = some j → (rproV rs 1 own o).v ≠ [] → G j ∨ w.heap.size ≤ j) ∧
    RR wr ri (rproS rs 1 own o) G5 ∧ Nx G G5 w wr ∧ w.heap.size ≤ bv ∧ Fr G w wr
section
variable {w w5 : World} {ri c : Nat} {G G5 : Nat → Prop} {rs : Rs} {own : List UInt8} {o : Option (Vt × Nat)} {pa : Option Addr} {pc : Nat}
theorem rproTo_A (hf : Fr G w.drew w5) (ho : BestR rs.L 1 o) (hb : Byt w5 (.slice pa (rproV rs 1 own o).v.length pc) (rproV rs 1 own o).v) (hloc : ∀ j, (Value.slice pa (rproV rs 1 own o).v.length pc).ownBlock = some j → (rproV rs 1 own o).v ≠ [] → G j ∨ w.drew.heap.size ≤ j)
    (hR : RR w5 ri (rproS rs 1 own o) G5) (hn : Nx G G5 w.drew w5) :
    RProTo ri G w rs own (.pointer (some ⟨w5.heap.size, 0, none⟩)) (w5.alloc (.cells #[.int .u64 (rproV rs 1 own o).s, .int .u64 (rproV rs 1 own o).n, .int .i64 (rproV rs 1 own o).d, .slice pa (rproV rs 1 own o).v.length pc] 46)) := by
  have ha := (Fr.refl (fun _ => False) w5).alloc (.cells #[.int .u64 (rproV rs 1 own o).s, .int .u64 (rproV rs 1 own o).n, .int .i64 (rproV rs 1 own o).d, .slice pa (rproV rs 1 own o).v.length pc] 46)
  have hs := hf.size
  have hz : w.drew.heap.size = w.heap.size := rfl
  refine ⟨o, w5.heap.size, pa, pc, G5, ho, rfl, Blk.new _ _ _, hb.fr ha (fun _ _ h => h), hloc, hR.none_ ha, fun k hk => ?_, by omega, hf.of_drew.tr ha.none_up⟩
  rcases hn k hk with h | h
  · exact .inl h
  · exact .inr ⟨h.1, by simp; omega⟩
theorem rproTo_B (hG : ∀ k, G k → k < w.heap.size) (hf : Fr G (w.alloc (.cells #[.int .u64 0, .int .u64 0, .int .i64 0, .slice none 0 0] 46)).drew w5) (ho : BestR rs.L 1 o)
    (hb : Byt w5 (.slice pa (rproV rs 1 own o).v.length pc) (rproV rs 1 own o).v) (hloc : ∀ j, (Value.slice pa (rproV rs 1 own o).v.length pc).ownBlock = some j → (rproV rs 1 own o).v ≠ [] → G j ∨ (w.alloc (.cells #[.int .u64 0, .int .u64 0, .int .i64 0, .slice none 0 0] 46)).drew.heap.size ≤ j)
    (hR : RR w5 ri (rproS rs 1 own o) G5) (hn : Nx G G5 (w.alloc (.cells #[.int .u64 0, .int .u64 0, .int .i64 0, .slice none 0 0] 46)).drew w5) :
    RProTo ri G w rs own (.pointer (some ⟨w.heap.size, 0, none⟩)) ((((w5.setCell ⟨w.heap.size, 0, none⟩ (.int .u64 (rproV rs 1 own o).s)).setCell ⟨w.heap.size, 1, none⟩ (.int .u64 (rproV rs 1 own o).n)).setCell ⟨w.heap.size, 2, none⟩ (.int .i64 (rproV rs 1 own o).d)).setCell ⟨w.heap.size, 3, none⟩ (.slice pa (rproV rs 1 own o).v.length pc)) := by
  have hz : (w.alloc (.cells #[.int .u64 0, .int .u64 0, .int .i64 0, .slice none 0 0] 46)).drew.heap.size = w.heap.size + 1 := by simp [World.drew]
  have hnG : ¬ G w.heap.size := fun h => by have := hG _ h; omega
  have hB := (z4 w).fr hf hnG
  have hB4 := (((hB.set_ 0 (.int .u64 (rproV rs 1 own o).s)).set_ 1 (.int .u64 (rproV rs 1 own o).n)).set_ 2 (.int .i64 (rproV rs 1 own o).d)).set_ 3 (.slice pa (rproV rs 1 own o).v.length pc)
  have hnG5 : ¬ G5 w.heap.size := fun h => by
    rcases hn _ h with h | h
    · exact hnG h
    · omega
  have hs := (((Fr.set1 w5 w.heap.size 0 (.int .u64 (rproV rs 1 own o).s)).setCell (p := ⟨w.heap.size, 1, none⟩) (fun _ => rfl) (.int .u64 (rproV rs 1 own o).n)).setCell (p := ⟨w.heap.size, 2, none⟩) (fun _ => rfl) (.int .i64 (rproV rs 1 own o).d)).setCell (p := ⟨w.heap.size, 3, none⟩) (fun _ => rfl) (.slice pa (rproV rs 1 own o).v.length pc)
  have hsz := hs.size
  have hsf := hf.size
  have hf0 : Fr G w w5 := ((Fr.refl G w).alloc (.cells #[.int .u64 0, .int .u64 0, .int .i64 0, .slice none 0 0] 46)).drew.trans hf (fun k _ h => h.elim id id)
  refine ⟨o, w.heap.size, pa, pc, G5, ho, rfl, by simpa using hB4, hb.fr' hs (fun k hk hne e => ?_), fun j hj hne => (hloc j hj hne).imp id (fun h => by omega), hR.fr hs (fun k hk e => hnG5 (e ▸ hk)), fun k hk => ?_, Nat.le_refl _, hf0.trans hs (fun k hk h => h.elim id (fun e => by omega))⟩
  · have e : k = w.heap.size := e
    rcases hloc k hk hne with h | h
    · exact hnG (e ▸ h)
    · omega
  · rcases hn k hk with h | h
    · exact .inl h
    · exact .inr ⟨by omega, by omega⟩
end

theorem rproV_ok {rs : Rs} {own : List UInt8} {o : Option (Vt × Nat)} (hw : RWf rs) (hr : rreadyB rs = true) (hf : rs.f = 1) (ho : BestR rs.L 1 o) (hl : own.length ≤ 100) :
    (rproV rs 1 own o).s = 1 ∧ (rproV rs 1 own o).n = rs.n ∧ (rproV rs 1 own o).d = rs.d ∧ (rproV rs 1 own o).v.length ≤ 100 := by
  have hE : rproE rs 1 own o = 0 := by
    unfold rproE
    rw [if_pos hr, hf, if_neg (by omega)]
    cases findV rs.S 1 with
    | some v => rfl
    | none => simp only; rw [if_neg (by omega)]
  unfold rproV
  rw [if_pos hE]
  cases hfv : findV rs.S 1 with
  | some v =>
    have h1 := List.find?_some hfv
    have h2 := hw.sl v (List.mem_of_find?_eq_some hfv)
    exact ⟨by simpa using h1, h2.2.2.1, h2.2.2.2.1, h2.2.2.2.2⟩
  | none =>
    refine ⟨rfl, rfl, rfl, ?_⟩
    show ((o.map (·.1.v)).getD own).length ≤ 100
    cases o with
    | none => exact hl
    | some y => obtain ⟨v, nd⟩ := y; exact best_len hw ho v nd rfl

set_option maxRecDepth 100000 in
set_option maxHeartbeats 16000000 in
theorem rsecond_any (r nb : Nat) (st : Sy) (c : Nat) (G F X : Nat → Prop) (m : Lt) (A : Option Addr) (vc : Nat) (w : World) (h : Rf w r nb st c G F) (hm : LWf st.N m) (hvm : VtL w (.slice A m.vs.length vc) m.vs X) (hc : c + 10 ≤ 1000000) :
    Calls Try.prog 79 #[.pointer (some ⟨r, 0, none⟩), mailV m (.slice A m.vs.length vc)] w fun e w' => e = .returned (.tuple #[]) ∧ RfTo w r nb (promS st m) (c + 1) G F w' := by
  have hx0 := h
  obtain ⟨sv, lv, cs, nv, mv, Gp, h⟩ := h
  have hi := hm.dst
  have hN := h.wf.n12
  have hwn := h.wf.nd m.dst hi
  obtain ⟨w1, hw1⟩ : ∃ w1, w1 = w.alloc (.cells #[.int .i64 m.k, .int .i64 (m.fr : Int), .int .i64 (m.dst : Int), .int .u64 (m.n : Int), .int .i64 m.d, .slice A m.vs.length vc] 68) := ⟨_, rfl⟩
  have hf1 : Fr (fun _ => False) w w1 := by rw [hw1]; exact (Fr.refl _ w).alloc _
  have hM1 : Blk w1 w.heap.size 68 #[.int .i64 m.k, .int .i64 (m.fr : Int), .int .i64 (m.dst : Int), .int .u64 (m.n : Int), .int .i64 m.d, .slice A m.vs.length vc] := by rw [hw1]; exact Blk.new _ _ _
  obtain ⟨bm, hbm⟩ : ∃ b, b = w.heap.size := ⟨_, rfl⟩
  rw [← hbm] at hM1
  have HMi := Lib.hid (rmine_any r nb st c G F m A vc w1 (hx0.none_ hf1) hm)
  have HW1 := Lib.hid (And.intro hw1 hbm)
  have HH := Lib.hid (And.intro h (And.intro hm (And.intro hf1 (And.intro hx0 hvm))))
  have m0 := hM1.cell 0 rfl
  have m1 := hM1.cell 1 rfl
  have m2 := hM1.cell 2 rfl
  have m3 := hM1.cell 3 rfl
  have m4 := hM1.cell 4 rfl
  have m5 := hM1.cell 5 rfl
  have hi0 : (0 : Int) ≤ (m.dst : Int) := by omega
  have hi1 : (m.dst : Int) < (st.N : Int) := by omega
  have hml := hm.len
  have hN12 := hN.2.1
  simp only [mailV] at HMi ⊢
  clear hw1 hbm h hf1 hm hN hx0 hvm
  go_enter Try.func79, Try.ntmps79
  go_upto_region 1 with (fail)
  rw [← HW1.out.1, ← HW1.out.2]
  go_wp2_with fail
  refine HMi.out.mono ?_
  rintro e w2 ⟨rfl, hf2⟩
  have hM2 := hM1.fr hf2 (fun h => h)
  clear m0 m1 m2 m3 m4 m5 hM1 HMi
  cases hmine : mineB (st.nd m.dst) m with
  | false =>
    have HMn := Lib.hid (And.intro hmine hf2)
    clear hmine hf2 hwn
    go_wp2_with fail
    refine bodyPost_ret (results_none rfl _ _ _) rfl ⟨rfl, ?_⟩
    have hst : promS st m = st := by
      unfold promS
      have h1 := HMn.out.1
      unfold mineB at h1
      cases hp : (st.nd m.dst).p with
      | none => rfl
      | some p =>
        rw [hp] at h1
        simp only [Option.isSome_some, Bool.true_and] at h1
        simp only
        rw [if_neg (fun hh => by rw [h1] at hh; cases hh.1)]
    rw [hst]
    exact RfTo.refl (HH.out.2.2.2.1.mono (Nat.le_succ c)) (HH.out.2.2.1.tr HMn.out.2)
  | true =>
    have hf12 := HH.out.2.2.1.tr hf2
    have h2 := HH.out.1.fr hf12 (fun _ _ h => h)
    have hR2 := h2.ndr hi
    obtain ⟨p, hp⟩ : ∃ p, (st.nd m.dst).p = some p := by
      unfold mineB at hmine
      cases hp : (st.nd m.dst).p with
      | none => rw [hp] at hmine; cases hmine
      | some p => exact ⟨p, rfl⟩
    have hsame : sameB (st.nd m.dst) m = true := by
      unfold mineB at hmine
      rw [Bool.and_eq_true] at hmine
      exact hmine.2
    rcases h2.prop m.dst hi with ⟨hn, -⟩ | ⟨p', ri, rs, hp', hy, hRR, hrel, hS, hMl, hrd⟩
    · rw [hp] at hn; cases hn
    obtain rfl : p = p' := by rw [hp] at hp'; injection hp'
    have r5 : w2.cell? ⟨r, 5, none⟩ = some (.slice (some ⟨nb, 0, none⟩) st.N st.N) := h2.blk.cell 5 rfl
    have n4 : w2.cell? ⟨nb, m.dst * 8 + 4, none⟩ = some (.pointer (some ⟨ri, 0, none⟩)) := by rw [← hy]; exact hR2.cell h2.nblk (j := 4) rfl
    have m2 := hM2.cell 2 rfl
    have HP := Lib.hid (And.intro hp (And.intro hy (And.intro hRR (And.intro hrel (And.intro hS (And.intro hMl (And.intro hrd (And.intro hsame (And.intro h2 (And.intro hf12 hM2))))))))))
    have HWn := Lib.hid (hwn.p p hp)
    clear hmine hf2 hf12 h2 hR2 hp hsame hp' hy hRR hrel hS hMl hrd hwn hM2
    go_upto_region 3 with (fail)
    go_quiet (fail)
    have hfq := (Fr.refl (fun _ => False) w2).drewN nq
    obtain ⟨w3, hw3⟩ : ∃ w3, w3 = w2.drewN nq := ⟨_, rfl⟩
    rw [← hw3] at hfq ⊢
    have HR3 := Lib.hid (HP.out.2.2.1.fr hfq (fun _ _ h => h))
    have HQ := Lib.hid hfq
    clear hw3 hfq r5 n4 m2
    go_wp2_with fail
    refine (rready_any ri rs (Gp m.dst) w3 HR3.out).mono ?_
    rintro e w4 ⟨rfl, hf4⟩
    rw [HP.out.2.2.2.1.ready]
    have HF4 := Lib.hid (HQ.out.tr hf4)
    clear hf4
    cases hrd1 : readyB p with
    | true =>
      have HRd := Lib.hid hrd1
      clear hrd1
      go_wp2_with fail
      refine bodyPost_ret (results_none rfl _ _ _) rfl ⟨rfl, ?_⟩
      have hst : promS st m = st := by
        unfold promS
        rw [HP.out.1]
        simp only
        rw [if_neg (fun hh => by rw [HRd.out] at hh; cases hh.2)]
      rw [hst]
      exact RfTo.refl (HH.out.2.2.2.1.mono (Nat.le_succ c)) (HP.out.2.2.2.2.2.2.2.2.2.1.tr HF4.out)
    | false =>
      have HRd := Lib.hid hrd1
      have hM4 := HP.out.2.2.2.2.2.2.2.2.2.2.fr HF4.out (fun h => h)
      have hR4 := HP.out.2.2.1.none_ HF4.out
      have m1 := hM4.cell 1 rfl
      have m5 := hM4.cell 5 rfl
      have hvl := (HH.out.2.2.2.2.up (HP.out.2.2.2.2.2.2.2.2.2.1.tr HF4.out) (fun _ h => h.elim)).mono (Y := fun _ => False) (fun _ h => h.elim)
      have HPm := Lib.hid (rprm_any ri rs (Gp m.dst) (m.fr : Int) (.slice A m.vs.length vc) m.vs w4 hR4 hvl (by omega) (fun q hq => by have := (HH.out.2.1.vs q hq).l; omega))
      clear hrd1 hM4 hR4 hvl
      go_wp2_with fail
      refine HPm.out.mono ?_
      rintro e w5 ⟨rfl, G5, hR5, hn5, hf5⟩
      have hrel5 := HP.out.2.2.2.1.prm (m.fr : Int) m.vs
      have H5 := Lib.hid (And.intro hR5 (And.intro hn5 (And.intro hf5 hrel5)))
      clear m1 m5 HPm hR5 hn5 hf5 hrel5
      go_wp2_with fail
      refine (rready_any ri (rprmS rs (m.fr : Int) m.vs) G5 w5 H5.out.1).mono ?_
      rintro e w6 ⟨rfl, hf6⟩
      rw [H5.out.2.2.2.ready]
      obtain ⟨p1, hp1⟩ : ∃ p1, p1 = prmP p (m.fr : Int) m.vs := ⟨_, rfl⟩
      obtain ⟨rs1, hrs1⟩ : ∃ rs1, rs1 = rprmS rs (m.fr : Int) m.vs := ⟨_, rfl⟩
      rw [← hp1]
      have hR6 := H5.out.1.none_ hf6
      have hrel6 := H5.out.2.2.2
      rw [← hp1, ← hrs1] at hrel6
      rw [← hrs1] at hR6
      have hfw26 : Fr (Gp m.dst) w2 w6 := (HF4.out.none_up.tr H5.out.2.2.1).tr hf6.none_up
      have hn26 : Nx (Gp m.dst) G5 w2 w6 := fun k hk => by
        rcases H5.out.2.1 k hk with h1 | h1
        · exact .inl h1
        · have := HF4.out.size; have := hf6.size; exact .inr (by omega)
      have hlen := rprmS_len' rs (m.fr : Int) m.vs
      rw [← hrs1] at hlen
      have hslp : p.sl 1 = none := by
        cases hs : p.sl 1 with
        | none => rfl
        | some y => exact absurd (HP.out.2.2.2.2.2.2.1 (by rw [hs]; simp)) (by rw [HRd.out]; simp)
      have hsl1 : p1.sl 1 = none := by rw [hp1, prmP_sl]; exact hslp
      have hGlt : ∀ k, G5 k → k < w6.heap.size := fun k hk => by
        rcases hn26 k hk with h1 | h1
        · have := HP.out.2.2.2.2.2.2.2.2.1.lt k (HP.out.2.2.2.2.2.2.2.2.1.GF k (HP.out.2.2.2.2.2.2.2.2.1.Gg m.dst k hi h1)); have := hfw26.size; omega
        · exact h1.2
      have e1 : p1.q = p.q := by rw [hp1]; exact prmP_q _ _ _
      have e2 : p1.n = p.n ∧ p1.d = p.d := by rw [hp1]; exact prmP_nd _ _ _
      have e3 : p1.f = p.f := by rw [hp1]; exact prmP_f _ _ _
      have H6 := Lib.hid (And.intro hR6 (And.intro hrel6 (And.intro hfw26 (And.intro hn26 (And.intro hlen (And.intro hslp (And.intro hsl1 (And.intro hGlt (And.intro e1 (And.intro e2 (And.intro e3 hp1)))))))))))
      clear hR6 hrel6 hfw26 hn26 hlen hslp hsl1 hGlt e1 e2 e3 hp1 hrs1 hf6 H5
      cases hrd2 : readyB p1 with
      | false =>
        have HRd2 := Lib.hid hrd2
        clear hrd2
        go_wp2_with fail
        refine bodyPost_ret (results_none rfl _ _ _) rfl ⟨rfl, ?_⟩
        obtain ⟨hp, hy, hRR, hrel, hS, hMl, hrd, hsame, h2, hf12, -⟩ := HP.out
        obtain ⟨hR6, hrel6, hfw26, hn26, hlen, hslp, hsl1, hGlt, e1, e2, e3, hp1⟩ := H6.out
        have hst : promS st m = st.upd m.dst { st.nd m.dst with p := some p1 } := by
          unfold promS
          rw [hp]
          simp only
          rw [if_pos ⟨hsame, HRd.out⟩, ← hp1, if_neg (by rw [HRd2.out]; simp)]
        rw [hst]
        have hput := h2.putP hi (F' := fun k => F k ∨ G5 k) (c' := c + 1) hp hy hR6 hrel6 (by rw [hlen.2]; omega) (by rw [hlen.1]; omega) (fun h => absurd hsl1 h) (Nat.le_succ c) hn26 hfw26 e1 e2 e3 (.inr HRd.out) (fun k => Iff.rfl) hGlt
        refine ⟨_, _, ⟨_, _, _, _, _, _, hput⟩, fun k hk => ?_, fun k hk => ?_, (hf12.none_up).tr (hfw26.mono fun k _ hk => h2.Gg m.dst k hi hk), fun k hk => .inl hk⟩
        · rcases hk with hk | hk
          · exact .inl hk
          · rcases hn26 k hk with h3 | h3
            · exact .inl (h2.Gg m.dst k hi h3)
            · have := hf12.size; exact .inr (by omega)
        · rcases hk with hk | hk
          · exact .inl hk
          · rcases hn26 k hk with h3 | h3
            · exact .inl (h2.GF k (h2.Gg m.dst k hi h3))
            · have := hf12.size; exact .inr (by omega)
      | true =>
        have HRd2 := Lib.hid hrd2
        have h2 := HP.out.2.2.2.2.2.2.2.2.1
        have hfw26 := H6.out.2.2.1
        have hR := h2.ndr hi
        have hbmG : ¬ Gp m.dst bm := fun hg => by
          have h1 := HH.out.1.lt bm (HH.out.1.GF bm (HH.out.1.Gg m.dst bm hi hg))
          have := HW1.out.2; omega
        have hB6 := h2.nblk.fr hfw26 (h2.dr m.dst hi).2.1
        have r5 : w6.cell? ⟨r, 5, none⟩ = some (.slice (some ⟨nb, 0, none⟩) st.N st.N) := (h2.blk.fr hfw26 (h2.dr m.dst hi).1).cell 5 rfl
        have hM6 := HP.out.2.2.2.2.2.2.2.2.2.2.fr hfw26 hbmG
        have m2 : w6.cell? ⟨bm, 2, none⟩ = some (.int .i64 (m.dst : Int)) := hM6.cell 2 rfl
        have hyb := (h2.nval m.dst hi).2.1
        have hyb6 := hyb.fr hfw26 (fun k hk => .inr (h2.Gg m.dst k hi hk))
        obtain ⟨ya, yc, hya⟩ : ∃ ya yc, (nv m.dst).a = .slice ya (st.nd m.dst).val.length yc := by
          obtain ⟨A', c', e, _⟩ := hyb6.1
          exact ⟨A', c', e⟩
        have n5 : w6.cell? ⟨nb, m.dst * 8 + 5, none⟩ = some (.slice ya (st.nd m.dst).val.length yc) := by rw [← hya]; exact hR.cell hB6 (j := 5) rfl
        have hvlen := (HH.out.1.wf.nd m.dst hi).val
        have hPro := fun (wx : World) (hfx : Fr (fun _ => False) w6 wx) => rpro_any ri rs1 G5 1 (by omega) (nv m.dst).a (st.nd m.dst).val wx (H6.out.1.none_ hfx) (fun k hk => Nat.lt_of_lt_of_le (H6.out.2.2.2.2.2.2.2.1 k hk) hfx.size) (hyb6.1.fr hfx (fun _ _ h => h)) (by omega) (by have h1 := H6.out.2.2.2.2.1.2; have h2 := HP.out.2.2.2.2.1; rw [h1]; omega)
        rw [hya] at hPro
        have HPro := Lib.hid hPro
        have hrl := (h2.blk.fr hfw26 (h2.dr m.dst hi).1).lt
        have hml6 := hM6.lt
        have hnl := hB6.lt
        have hneR : r ≠ w6.heap.size := by omega
        have hneM : bm ≠ w6.heap.size := by omega
        have hneB : nb ≠ w6.heap.size := by omega
        have hnotG5 : ∀ k, k < w2.heap.size → ¬ Gp m.dst k → ¬ G5 k := fun k hk hng h5 => by
          rcases H6.out.2.2.2.1 k h5 with h1 | h1
          · exact hng h1
          · omega
        have hrG5 : ¬ G5 r := hnotG5 r h2.blk.lt (h2.dr m.dst hi).1
        have hnG5 : ¬ G5 nb := hnotG5 nb h2.nblk.lt (h2.dr m.dst hi).2.1
        have hmG5 : ¬ G5 bm := hnotG5 bm HP.out.2.2.2.2.2.2.2.2.2.2.lt hbmG
        have hwG5 : ¬ G5 w6.heap.size := fun h => by have := H6.out.2.2.2.2.2.2.2.1 _ h; omega
        have HG5 := Lib.hid H6.out.2.2.2.2.2.2.2.1
        have HM6 := Lib.hid (And.intro hM6 (And.intro hB6 (And.intro hbmG (And.intro hrG5 (And.intro hnG5 (And.intro hmG5 hwG5))))))
        clear hrd2 h2 hfw26 hR hbmG hB6 hM6 hyb hyb6 hPro hnotG5
        go_upto_region 9 with (fail)
        go_cut [8] (fun x8 wr => RProTo ri G5 w6 rs1 (st.nd m.dst).val x8 wr)
        case first =>
          first
            | go_region_held3 (fun wx => wx.cell? ⟨r, 5, none⟩ = some (.slice (some ⟨nb, 0, none⟩) st.N st.N) ∧ wx.cell? ⟨bm, 2, none⟩ = some (.int .i64 (m.dst : Int)) ∧ wx.cell? ⟨nb, m.dst * 8 + 5, none⟩ = some (.slice ya (st.nd m.dst).val.length yc))
                (first | exact hS4 | (simp only [ks_eq hneR, ks_eq hneM, ks_eq hneB, hS4.1, hS4.2.1, hS4.2.2, and_self]; done) | (simp only [al_eq hrl7, al_eq hml7, al_eq hnl7, hS4.1, hS4.2.1, hS4.2.2, and_self]; done) | exact ⟨r5, m2, n5⟩ | exact ⟨(al_eq hrl).trans r5, (al_eq hml6).trans m2, (al_eq hnl).trans n5⟩)
                (first
                  | (go_at_call 87
                     refine (HPro.out _ (Fr.refl _ w6).drew).mono ?_
                     rintro e w7 ⟨o, pa, pc, hbest, rfl, hby7, hloc7, G7, hR7, hn7, hf7⟩
                     simp only [vtV]
                     have hS4 := And.intro (hf7.cell r5 hrG5) (And.intro (hf7.cell m2 hmG5) (hf7.cell n5 hnG5))
                     have hsz7 : w6.heap.size ≤ w7.heap.size := hf7.size
                     have hrl7 : r < w7.heap.size := by omega
                     have hml7 : bm < w7.heap.size := by omega
                     have hnl7 : nb < w7.heap.size := by omega)
                  | (go_at_call 87
                     refine (HPro.out _ ((Fr.refl _ w6).alloc _).drew).mono ?_
                     rintro e w7 ⟨o, pa, pc, hbest, rfl, hby7, hloc7, G7, hR7, hn7, hf7⟩
                     simp only [vtV]
                     have hS4 := And.intro (hf7.cell ((al_eq hrl).trans r5) hrG5) (And.intro (hf7.cell ((al_eq hml6).trans m2) hmG5) (hf7.cell ((al_eq hnl).trans n5) hnG5))
                     have hBz := (z4 w6).fr hf7 hwG5
                     have z0 := hBz.cell 0 rfl
                     have z1 := hBz.cell 1 rfl
                     have z2 := hBz.cell 2 rfl
                     have z3 := hBz.cell 3 rfl
                     have zf := hBz.frozen
                     have hsz7 : w6.heap.size ≤ w7.heap.size := by have h1 := hf7.size; have h3 : (w6.alloc (.cells #[.int .u64 0, .int .u64 0, .int .i64 0, .slice none 0 0] 46)).drew.heap.size = w6.heap.size + 1 := (by simp [World.drew]); omega
                     have hrl7 : r < w7.heap.size := by omega
                     have hml7 : bm < w7.heap.size := by omega
                     have hnl7 : nb < w7.heap.size := by omega))
            | fail
          all_goals
            go_wp2_with fail
            go_meet
            first
              | (have _u := hBz
                 exact rproTo_B HG5.out hf7 hbest hby7 hloc7 hR7 hn7)
              | exact rproTo_A hf7 hbest hby7 hloc7 hR7 hn7
        case rest =>
          obtain ⟨o, bv, pa, pc, G7, hbest, rfl, hBv, hby, hloc, hR7, hn7, hbv, hf7⟩ := hcut
          obtain ⟨w7, hw7⟩ : ∃ w7, w7 = wc := ⟨_, rfl⟩
          rw [← hw7] at hBv hby hR7 hn7 hf7 ⊢
          clear hw7
          obtain ⟨hp, hy, hRR, hrel, hS, hMl, hrd, hsame, h2, hf12, hMb⟩ := HP.out
          obtain ⟨hR6, hrel6, hfw26, hn26, hlen, hslp, hsl1, hGlt, e1, e2, e3, hp1⟩ := H6.out
          obtain ⟨hM6, hB6, hbmG, hrG5', hnG5', hmG5', hwG5'⟩ := HM6.out
          have hx6 : NWf st.q (st.nd m.dst) := h2.wf.nd m.dst hi
          obtain ⟨wq, wn, wd, wf1⟩ := HWn.out
          obtain ⟨sb1, sb2⟩ := sameB_iff.1 hsame
          have hok := rproV_ok hR6.wf (by rw [hrel6.ready]; exact HRd2.out) (by rw [hrel6.f, e3, wf1]) hbest hx6.val
          have hVe := hrel6.proV hR6.wf hbest (own := (st.nd m.dst).val)
          have hrel7 := hrel6.pro hR6.wf hbest (own := (st.nd m.dst).val)
          have hlen7 := rproS_len' rs1 1 (st.nd m.dst).val o
          obtain ⟨V, hV⟩ : ∃ V, V = rproV rs1 1 (st.nd m.dst).val o := ⟨_, rfl⟩
          obtain ⟨p7, hp7⟩ : ∃ p7, p7 = proP p1 1 (st.nd m.dst).val := ⟨_, rfl⟩
          rw [← hV] at hBv hby hloc hok hVe
          rw [← hp7] at hrel7
          have hVw : VWf V := by
            have hn : V.n = (st.nd m.dst).bn := by rw [hok.2.1, hrel6.n, e2.1, wn]
            have hd : V.d = (st.nd m.dst).bd := by rw [hok.2.2.1, hrel6.d, e2.2, wd]
            exact ⟨by rw [hok.1]; exact Nat.le_refl _, by rw [hn]; exact hx6.bn, by rw [hd]; exact hx6.bd0, by rw [hd]; exact hx6.bd1, hok.2.2.2⟩
          have hs67 := hf7.size
          have hs26 := hfw26.size
          have hf27 : Fr (Gp m.dst) w2 w7 := hfw26.trans hf7 (fun k hk h => h.elim id (fun h => (hn26 k h).elim id (fun h => by omega)))
          have hn27 : Nx (Gp m.dst) G7 w2 w7 := hn26.tr hn7 hs26 hs67
          have hG7 : ∀ k, G7 k → k < w7.heap.size := fun k hk => by
            rcases hn7 k hk with h | h
            · have := hGlt k h; omega
            · exact h.2
          have hr7 : readyB p7 = true := by rw [hp7]; have : readyB (proP p1 1 (st.nd m.dst).val) = readyB p1 := by { unfold readyB; rw [proP_q, proP_set] }; rw [this]; exact HRd2.out
          have hput := h2.putP hi (F' := fun k => F k ∨ G7 k) (c' := c + 1) hp hy hR7 hrel7 (by have := hlen7.2; rw [hlen.2] at this; omega) (by rw [hlen7.1, hlen.1]; omega) (fun _ => hr7) (Nat.le_succ c) hn27 hf27
            (by rw [hp7, proP_q, e1]) (by rw [hp7, (proP_n _ _ _).1, (proP_n _ _ _).2]; exact e2) (by rw [hp7, proP_f, e3]) (.inr HRd.out) (fun k => Iff.rfl) hG7
          obtain ⟨st7, hst7⟩ : ∃ st7, st7 = st.upd m.dst { st.nd m.dst with p := some p7 } := ⟨_, rfl⟩
          rw [← hst7] at hput
          have hN7 : st7.N = st.N := by rw [hst7]; rfl
          obtain ⟨L, hL⟩ : ∃ L : Lt, L = ⟨3, m.dst, 0, m.n, m.d, [V]⟩ := ⟨_, rfl⟩
          have hfinst : promS st m = allS st7 L st.N := by
            unfold promS
            rw [hp]
            simp only
            rw [if_pos ⟨hsame, HRd.out⟩, ← hp1, if_pos HRd2.out, ← hp7, ← hVe, ← hst7, hL, sb1, sb2]
          have hM7 := hM6.fr hf7 hmG5'
          have hlm : ∀ i, i < st.N → LWf st.N { L with dst := i } := fun i hiN => by
            rw [hL]
            exact ⟨hi, hiN, HH.out.2.1.n, HH.out.2.1.d0, HH.out.2.1.d1, by simp, fun v hv => by have : v = V := by { simpa using hv }; rw [this]; exact hVw, fun _ => by simp⟩
          have hpaloc : ∀ j, (Value.slice pa V.v.length pc).ownBlock = some j → V.v ≠ [] → j < w7.heap.size ∧ j ≠ r ∧ ¬ lv.ownBlock = some j := fun j hj hne => by
            obtain ⟨k', hk1, hk2⟩ := hby.lt hne
            have hjk : j = k' := by rw [hj] at hk1; injection hk1
            refine ⟨by omega, fun e => ?_, fun e => ?_⟩
            · subst e
              rcases hloc j hj hne with h | h
              · exact hrG5' h
              · omega
            · have hjF := h2.GF j (h2.Gl j e)
              have hjlt := h2.lt j hjF
              rcases hloc j hj hne with h | h
              · rcases hn26 j h with h3 | h3
                · exact (h2.dr m.dst hi).2.2 j e h3
                · omega
              · omega
          have hbmlv : ¬ lv.ownBlock = some bm := fun e => by
            have h4 := HH.out.1.lt bm (HH.out.1.GF bm (HH.out.1.Gl bm e))
            have := HW1.out.2
            omega
          have hr5 : w7.cell? ⟨r, 5, none⟩ = some (.slice (some ⟨nb, 0, none⟩) st7.N st7.N) := hput.blk.cell 5 rfl
          have hl3 : ∀ k, lv.ownBlock = some k → k < w7.heap.size := fun k hk => by have := h2.lt k (h2.GF k (h2.Gl k hk)); omega
          have HFin := Lib.hid (And.intro hfinst (And.intro hf27 (And.intro hn27 (And.intro hf12 (And.intro h2 hN7)))))
          have HLm := Lib.hid (And.intro hlm (And.intro hVw (And.intro hpaloc (And.intro hbmlv (And.intro hL (And.intro hl3 (show bm < w7.heap.size by omega)))))))
          obtain ⟨G0, hG0⟩ : ∃ G0 : Nat → Prop, G0 = fun k => G k ∨ G7 k := ⟨_, rfl⟩
          obtain ⟨F0, hF0⟩ : ∃ F0 : Nat → Prop, F0 = fun k => F k ∨ G7 k := ⟨_, rfl⟩
          obtain ⟨nv7, hnv7⟩ : ∃ nv7 : Nat → Rv, nv7 = fun a => if a = m.dst then nv m.dst else nv a := ⟨_, rfl⟩
          obtain ⟨Gp7, hGp7⟩ : ∃ Gp7 : Nat → Nat → Prop, Gp7 = fun a => if a = m.dst then G7 else Gp a := ⟨_, rfl⟩
          rw [← hG0, ← hF0, ← hnv7, ← hGp7] at hput
          have HG0 := Lib.hid (And.intro hG0 hF0)
          have HPut := Lib.hid (And.intro hput (And.intro hby (And.intro hBv hM7)))
          clear hp hy hRR hrel hS hMl hrd hsame h2 hf12 hMb hR6 hrel6 hfw26 hn26 hlen hslp hsl1 hGlt e1 e2 e3 hp1 hM6 hB6 hbmG hrG5' hnG5' hmG5' hwG5' hx6 wq wn wd wf1 sb1 sb2 hok hVe hrel7 hlen7 hV hp7 hVw hs67 hs26 hf27 hn27 hG7 hr7 hst7 hfinst hM7 hlm hpaloc hbmlv hL hG0 hF0 hnv7 hGp7 hput hBv hby hR7 hloc hbest hn7 hf7 hr5 hl3 r5 m2 n5 hneR hneM hneB hrG5 hnG5 hmG5 hwG5
          go_wp2_with fail
          go_loopg [10] st.N (fun g x10 wr => ∃ (i : Nat) (lv' : Value) (mv' : List Value) (G' F' : Nat → Prop), i + g = st.N ∧ x10 = .int .i64 i ∧ RfX wr r nb (allS st7 L i) (c + 1) G' F' sv lv' cs nv7 mv' Gp7 ∧ Nx G0 G' w7 wr ∧ Nx F0 F' w7 wr ∧ (∀ k, F0 k → F' k) ∧ Fr G0 w7 wr ∧
            (∀ k, lv'.ownBlock = some k → lv.ownBlock = some k ∨ w7.heap.size ≤ k) ∧ Byt wr (.slice pa V.v.length pc) V.v ∧ Blk wr bv 46 #[.int .u64 V.s, .int .u64 V.n, .int .i64 V.d, .slice pa V.v.length pc] ∧ Blk wr bm 68 #[.int .i64 m.k, .int .i64 (m.fr : Int), .int .i64 (m.dst : Int), .int .u64 (m.n : Int), .int .i64 m.d, .slice A m.vs.length vc])
          case atStart => exact ⟨0, lv, mv, G0, F0, by omega, rfl, HPut.out.1, Nx.refl _ _ _, Nx.refl _ _ _, fun _ h => h, Fr.refl _ _, fun k hk => .inl hk, HPut.out.2.1, HPut.out.2.2.1, HPut.out.2.2.2⟩
          case round =>
            clear HPut
            obtain ⟨i, lv', mv', G', F', hi', rfl, hX, hnG', hnF', hFF', hfr', hlv', hby, hBv, hM⟩ := hrel
            have HI := Lib.hid hi'
            have hNi : (allS st7 L i).N = st.N := by rw [allS_N]; exact HFin.out.2.2.2.2.2
            have hr5 : wr.cell? ⟨r, 5, none⟩ = some (.slice (some ⟨nb, 0, none⟩) (allS st7 L i).N (allS st7 L i).N) := hX.blk.cell 5 rfl
            rw [hNi] at hr5
            have hile : i ≤ st.N := by omega
            have HX := Lib.hid (And.intro hX (And.intro hnG' (And.intro hnF' (And.intro hFF' (And.intro hfr' (And.intro hlv' (And.intro hby (And.intro hBv (And.intro hM hNi)))))))))
            clear hi' hX hnG' hnF' hFF' hfr' hlv' hby hBv hM hNi
            by_cases hiN : i < st.N
            · have m2 := HX.out.2.2.2.2.2.2.2.2.1.cell 2 rfl
              have m3 := HX.out.2.2.2.2.2.2.2.2.1.cell 3 rfl
              have m4 := HX.out.2.2.2.2.2.2.2.2.1.cell 4 rfl
              have v0 := HX.out.2.2.2.2.2.2.2.1.cell 0 rfl
              have v1 := HX.out.2.2.2.2.2.2.2.1.cell 1 rfl
              have v2 := HX.out.2.2.2.2.2.2.2.1.cell 2 rfl
              have v3 := HX.out.2.2.2.2.2.2.2.1.cell 3 rfl
              obtain ⟨w8, hw8⟩ : ∃ w8, w8 = wr.alloc (.cells #[.int .u64 V.s, .int .u64 V.n, .int .i64 V.d, .slice pa V.v.length pc] 46) := ⟨_, rfl⟩
              have hf8 : Fr (fun _ => False) wr w8 := by rw [hw8]; exact (Fr.refl _ wr).alloc _
              have hV8 : VtL w8 (.slice (some ⟨wr.heap.size, 0, none⟩) 1 1) [V] (fun _ => False) := by
                refine vtl_one (b := wr.heap.size) (by rw [hw8]; exact Blk.new _ _ _) (HX.out.2.2.2.2.2.2.1.fr hf8 (fun _ _ h => h)) (fun h => h) (fun _ _ _ h => h) (by have := HLm.out.2.1.l; unfold maxLen; omega) (by have := HLm.out.2.1.s; omega) (by have := HLm.out.2.1.n; unfold lastN at this; omega) (by have := HLm.out.2.1.d0; omega) (by have := HLm.out.2.1.d1; omega) 1
              have hsd := rsendX_any r nb (allS st7 L i) (c + 1) G' F' (fun _ => False) sv lv' cs nv7 mv' Gp7 { L with dst := i } (.slice (some ⟨wr.heap.size, 0, none⟩) 1 1) w8 (HX.out.1.fr hf8 (fun _ _ h => h)) (by rw [HX.out.2.2.2.2.2.2.2.2.2]; exact HLm.out.1 i hiN) (by have hvs : ({ L with dst := i } : Lt).vs = [V] := by { rw [HLm.out.2.2.2.2.1] }; rw [hvs]; exact hV8)
              have hmv : mailV { L with dst := i } (.slice (some ⟨wr.heap.size, 0, none⟩) 1 1) = .agg #[.int .i64 3, .int .i64 (m.dst : Int), .int .i64 (i : Int), .int .u64 (m.n : Int), .int .i64 m.d, .slice (some ⟨wr.heap.size, 0, none⟩) 1 1] := by rw [HLm.out.2.2.2.2.1]; rfl
              rw [hmv] at hsd
              have HSd := Lib.hid hsd
              have HW8 := Lib.hid (And.intro hw8 hf8)
              clear hw8 hf8 hV8 hsd hmv
              go_wp2_with fail
              rw [← HW8.out.1]
              refine HSd.out.mono ?_
              rintro e w9 ⟨rfl, hsent⟩
              have HSe := Lib.hid hsent
              clear hsent hr5 m2 m3 m4 v0 v1 v2 v3 HSd
              go_wp2_with fail
              go_roundg (st.N - (i + 1))
              case measure => have := HI.out; omega
              case rel =>
                obtain ⟨lv9, mv9, G9, F9, hX9, hnG9, hnF9, hFF9, hfr9, hlv9⟩ := HSe.out
                obtain ⟨hX, hnG', hnF', hFF', hfr', hlv', hby, hBv, hM, hNi⟩ := HX.out
                obtain ⟨hlm, hVw, hpaloc, hbmlv, hL, hl3, hmlt7⟩ := HLm.out
                have hf8 := HW8.out.2
                have hs8 := hf8.size
                have hs9 := hfr9.size
                have hs7r := hfr'.size
                have hfr89 : Fr (fun k => k = r ∨ lv'.ownBlock = some k) wr w9 := hf8.none_up.tr hfr9
                have hXr := hX.GF r hX.Gr
                have hbvr : bv ≠ r := hBv.ne_ hX.blk (by decide)
                have hbmr : bm ≠ r := hM.ne_ hX.blk (by decide)
                have hmlt := HX.out.2.2.2.2.2.2.2.2.1.lt
                refine ⟨i + 1, lv9, mv9, G9, F9, by have := HI.out; omega, by go_num, hX9, fun k hk => ?_, fun k hk => ?_, fun k hk => hFF9 k (hFF' k hk), hfr'.trans hfr89 (fun k hk h => ?_), fun k hk => ?_, hby.fr' hfr89 (fun k hk hne h => ?_), hBv.fr hfr89 (fun h => ?_), hM.fr hfr89 (fun h => ?_)⟩
                · rcases hnG9 k hk with h | h
                  · rcases hnG' k h with h | h
                    · exact .inl h
                    · exact .inr (by omega)
                  · exact .inr (by omega)
                · rcases hnF9 k hk with h | h
                  · rcases hnF' k h with h | h
                    · exact .inl h
                    · exact .inr (by omega)
                  · exact .inr (by omega)
                · rcases h with h | h | h
                  · exact h
                  · rcases hnG' k (h ▸ hX.Gr) with h5 | h5
                    · exact h5
                    · omega
                  · rcases hnG' k (hX.Gl k h) with h5 | h5
                    · exact h5
                    · omega
                · rcases hlv9 k hk with h | h
                  · exact hlv' k h
                  · exact .inr (by omega)
                · obtain ⟨a1, a2, a3⟩ := hpaloc k hk hne
                  rcases h with h | h
                  · exact a2 h
                  · rcases hlv' k h with h | h
                    · exact a3 h
                    · omega
                · rcases h with h | h
                  · exact hbvr h
                  · exact own_blk_ne hX.lrow hBv (by decide) bv h rfl
                · rcases h with h | h
                  · exact hbmr h
                  · rcases hlv' bm h with h | h
                    · exact hbmlv h
                    · omega
            · obtain rfl : i = st.N := by omega
              go_wp2_with fail
              refine bodyPost_end (results_none rfl _ _ _) rfl ⟨rfl, ?_⟩
              obtain ⟨hfinst, hf27, hn27, hf12, h2, hN7⟩ := HFin.out
              obtain ⟨hX, hnG', hnF', hFF', hfr', hlv', hby, hBv, hM, hNi⟩ := HX.out
              obtain ⟨hG0, hF0⟩ := HG0.out
              rw [hfinst]
              have hs12 := hf12.size
              have hs27 := hf27.size
              have hs7r := hfr'.size
              refine ⟨G', F', ⟨_, _, _, _, _, _, hX⟩, fun k hk => ?_, fun k hk => ?_, ((hf12.none_up).tr (hf27.mono fun k _ hk => h2.Gg m.dst k hi hk)).trans hfr' (fun k hk h => ?_), fun k hk => hFF' k (by rw [hF0]; exact .inl hk)⟩
              · rcases hnG' k hk with h | h
                · rw [hG0] at h
                  rcases h with h | h
                  · exact .inl h
                  · rcases hn27 k h with h | h
                    · exact .inl (h2.Gg m.dst k hi h)
                    · exact .inr (by omega)
                · exact .inr (by omega)
              · rcases hnF' k hk with h | h
                · rw [hF0] at h
                  rcases h with h | h
                  · exact .inl h
                  · rcases hn27 k h with h | h
                    · exact .inl (h2.GF k (h2.Gg m.dst k hi h))
                    · exact .inr (by omega)
                · exact .inr (by omega)
              · rcases h with h | h
                · exact h
                · rw [hG0] at h
                  rcases h with h | h
                  · exact h
                  · rcases hn27 k h with h | h
                    · exact h2.Gg m.dst k hi h
                    · omega
end Go.Proofs.Ytkpfgoalohbfeaa
