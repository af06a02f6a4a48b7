/- promise. -/
import Derived.Test.YtkpfgoalohbfeaaSH
namespace Go.Proofs.Ytkpfgoalohbfeaa
open Go.RowKit

theorem ks_eq {w : World} {u : Value} {b i nb o : Nat} (hb : nb ≠ b) : (w.setCell ⟨b, i, none⟩ u).cell? ⟨nb, o, none⟩ = w.cell? ⟨nb, o, none⟩ :=
  World.cell?_of_block (Below.heap_setCell _ _ _ _ hb)
theorem al_eq {w : World} {x : Obj} {nb o : Nat} (hb : nb < w.heap.size) : (w.alloc x).cell? ⟨nb, o, none⟩ = w.cell? ⟨nb, o, none⟩ := World.cell?_alloc_lt w x _ hb

theorem z4 (w : World) : Blk (w.alloc (.cells #[.int .u64 0, .int .u64 0, .int .i64 0, .slice none 0 0] 46)).drew w.heap.size 46 #[.int .u64 0, .int .u64 0, .int .i64 0, .slice none 0 0] := Blk.new w 46 _
/-- What Propose leaves, its vote in a block. -/
def ProTo (ri c : Nat) (G : Nat → Prop) (w : World) (V : Vt) (p' : Ps) (x6 : Value) (wr : World) : Prop :=
  ∃ bv pa pc G5, x6 = .pointer (some ⟨bv, 0, none⟩) ∧ Blk wr bv 46 #[.int .u64 V.s, .int .u64 V.n, .int .i64 V.d, .slice pa V.v.length pc] ∧ wr.ownsRow w.heap.size 5 1 (.slice pa V.v.length pc) V.v.length (u8s V.v) ∧
    PR wr ri p' (c + 1) G5 ∧ Nx G G5 w wr ∧ ¬ G5 bv ∧ w.heap.size ≤ bv ∧ (∀ j, (Value.slice pa V.v.length pc).ownBlock = some j → ¬ G5 j) ∧ Fr G w wr
theorem upd_nd' (st : Sy) (i : Nat) (x : Nd) : (st.upd i x).nd i = x := by show (if i = i then x else st.nd i) = x; rw [if_pos rfl]
theorem Rm.bcells {w : World} {r nb c i : Nat} {st : Sy} {G F : Nat → Prop} (h : Rm w r nb st c G F) (hi : i < st.N) : w.cell? ⟨nb, i * 13 + 8, none⟩ = some (.int .u64 ((st.nd i).bn : Int)) ∧ w.cell? ⟨nb, i * 13 + 9, none⟩ = some (.int .i64 (st.nd i).bd) := by
  obtain ⟨sv, lv, cs, nv, mv, Gp, h⟩ := h
  exact ⟨(h.ndr hi).cell h.nblk (j := 8) rfl, (h.ndr hi).cell h.nblk (j := 9) rfl⟩
theorem RmTo.monoC {w w' : World} {r nb c c' : Nat} {st : Sy} {G F : Nat → Prop} (h : RmTo w r nb st c G F w') (hc : c ≤ c') : RmTo w r nb st c' G F w' := by
  obtain ⟨G', F', h1, h2⟩ := h
  exact ⟨G', F', h1.mono hc, h2⟩
section
variable {w w5 : World} {ri c : Nat} {G G5 : Nat → Prop} {V : Vt} {p' : Ps} {pa : Option Addr} {pc : Nat}
theorem proTo_A (_hG : ∀ k, G k → k < w.heap.size) (hf : Fr G w.drew w5) (ho : w5.ownsRow w.drew.heap.size 5 1 (.slice pa V.v.length pc) V.v.length (u8s V.v)) (hP : PR w5 ri p' (c + 1) G5) (hn : Nx G G5 w.drew w5) (hno : ∀ j, (Value.slice pa V.v.length pc).ownBlock = some j → ¬ G5 j) :
    ProTo ri c G w V p' (.pointer (some ⟨w5.heap.size, 0, none⟩)) (w5.alloc (.cells #[.int .u64 V.s, .int .u64 V.n, .int .i64 V.d, .slice pa V.v.length pc] 46)) := by
  have ha := (Fr.refl (fun _ => False) w5).alloc (.cells #[.int .u64 V.s, .int .u64 V.n, .int .i64 V.d, .slice pa V.v.length pc] 46)
  have hs := hf.size
  have hz : w.drew.heap.size = w.heap.size := rfl
  refine ⟨w5.heap.size, pa, pc, G5, rfl, Blk.new _ _ _, own_fr ho ha (fun _ _ h => h), hP.none_ ha, fun k hk => ?_, fun hk => ?_, by omega, hno, hf.of_drew.tr ha.none_up⟩
  · rcases hn k hk with h | h
    · exact .inl h
    · exact .inr ⟨h.1, by simp; omega⟩
  · rcases hn _ hk with h | h
    · have := _hG _ h; omega
    · omega
theorem proTo_B (hG : ∀ k, G k → k < w.heap.size) (hf : Fr G (w.alloc (.cells #[.int .u64 0, .int .u64 0, .int .i64 0, .slice none 0 0] 46)).drew w5)
    (ho : w5.ownsRow (w.alloc (.cells #[.int .u64 0, .int .u64 0, .int .i64 0, .slice none 0 0] 46)).drew.heap.size 5 1 (.slice pa V.v.length pc) V.v.length (u8s V.v)) (hP : PR w5 ri p' (c + 1) G5)
    (hn : Nx G G5 (w.alloc (.cells #[.int .u64 0, .int .u64 0, .int .i64 0, .slice none 0 0] 46)).drew w5) (hno : ∀ j, (Value.slice pa V.v.length pc).ownBlock = some j → ¬ G5 j) :
    ProTo ri c G w V p' (.pointer (some ⟨w.heap.size, 0, none⟩)) ((((w5.setCell ⟨w.heap.size, 0, none⟩ (.int .u64 V.s)).setCell ⟨w.heap.size, 1, none⟩ (.int .u64 V.n)).setCell ⟨w.heap.size, 2, none⟩ (.int .i64 V.d)).setCell ⟨w.heap.size, 3, none⟩ (.slice pa V.v.length pc)) := by
  have hz : (w.alloc (.cells #[.int .u64 0, .int .u64 0, .int .i64 0, .slice none 0 0] 46)).drew.heap.size = w.heap.size + 1 := by simp [World.drew]
  have hnG : ¬ G w.heap.size := fun h => by have := hG _ h; omega
  have hB := (z4 w).fr hf hnG
  have hB4 := (((hB.set_ 0 (.int .u64 V.s)).set_ 1 (.int .u64 V.n)).set_ 2 (.int .i64 V.d)).set_ 3 (.slice pa V.v.length pc)
  have hnG5 : ¬ G5 w.heap.size := fun h => by
    rcases hn _ h with h | h
    · exact hnG h
    · omega
  have hs := (((Fr.set1 w5 w.heap.size 0 (.int .u64 V.s)).setCell (p := ⟨w.heap.size, 1, none⟩) (fun _ => rfl) (.int .u64 V.n)).setCell (p := ⟨w.heap.size, 2, none⟩) (fun _ => rfl) (.int .i64 V.d)).setCell (p := ⟨w.heap.size, 3, none⟩) (fun _ => rfl) (.slice pa V.v.length pc)
  have hsz := hs.size
  have hsf := hf.size
  have hf0 : Fr G w w5 := ((Fr.refl G w).alloc (.cells #[.int .u64 0, .int .u64 0, .int .i64 0, .slice none 0 0] 46)).drew.trans hf (fun k _ h => h.elim id id)
  refine ⟨w.heap.size, pa, pc, G5, rfl, by simpa using hB4, own_fr (own_up (own_base ho) (fun k hk => by have := (ho.lt k hk).1; omega)) hs (fun k hk e => by have := (ho.lt k hk).1; omega), hP.fr hs (fun k _ hk e => hnG5 (e ▸ hk)), fun k hk => ?_, hnG5, Nat.le_refl _, hno, hf0.trans hs (fun k hk h => h.elim id (fun e => by omega))⟩
  rcases hn k hk with h | h
  · exact .inl h
  · exact .inr ⟨by omega, by omega⟩
end

set_option maxRecDepth 100000 in
set_option maxHeartbeats 16000000 in
theorem prmr_any (r nb : Nat) (st : Sy) (c : Nat) (G F X : Nat → Prop) (m : Lt) (v : Value) (w : World) (h : Rm w r nb st c G F) (hm : LWf st.N m) (hvm : VtL w v m.vs X) (hX : ∀ k, G k → X k) (hc : c + 10 < maxLen) :
    Calls Try.prog 40 #[.pointer (some ⟨nb, m.dst * 13, none⟩), .pointer (some ⟨r, 0, none⟩), mailV m v] w (VoidTo w r nb (promS st m) (c + 2) G F) := by
  have hx := h
  obtain ⟨sv, lv, cs, nv, mv, Gp, h⟩ := h
  have hi := hm.dst
  have hR := h.ndr hi
  have hvl := hvm
  obtain ⟨⟨A, vc, rfl, -⟩, -⟩ := hvl
  obtain ⟨w1, hw1⟩ : ∃ w1, w1 = w.alloc (.cells #[.int .i64 m.k, .int .i64 (m.fr : Int), .int .i64 (m.dst : Int), .int .u64 (m.n : Int), .int .i64 m.d, .slice A m.vs.length vc] 68) := ⟨_, rfl⟩
  have hf1 : Fr (fun _ => False) w w1 := by rw [hw1]; exact (Fr.refl _ w).alloc _
  have hM1 : Blk w1 w.heap.size 68 #[.int .i64 m.k, .int .i64 (m.fr : Int), .int .i64 (m.dst : Int), .int .u64 (m.n : Int), .int .i64 m.d, .slice A m.vs.length vc] := by rw [hw1]; exact Blk.new _ _ _
  obtain ⟨bm, hbm⟩ : ∃ b, b = w.heap.size := ⟨_, rfl⟩
  rw [← hbm] at hM1
  have h1 := h.fr hf1 (fun _ _ h => h)
  have HW1 := Lib.hid (And.intro hw1 hbm)
  have HBM := Lib.hid hbm
  obtain ⟨S', hS⟩ : ∃ S', S' = promS st m := ⟨_, rfl⟩
  rw [← hS]
  have HS := Lib.hid hS
  have hp := h1.prop m.dst hi
  have HH := Lib.hid (And.intro h1 (And.intro hm (And.intro hf1 (And.intro hx (And.intro (hvm.up hf1 (fun _ h => h.elim)) (And.intro hX hc))))))
  simp only [mailV]
  clear hw1 hbm hS h hx hvm hX
  go_enter Try.func40, Try.ntmps40
  go_upto_region 1 with (fail)
  rw [← HW1.out.1, ← HW1.out.2]
  clear HW1 hf1
  have m3 := hM1.cell 3 rfl
  have m4 := hM1.cell 4 rfl
  have n8 : w1.cell? ⟨nb, m.dst * 13 + 8, none⟩ = some (.int .u64 ((st.nd m.dst).bn : Int)) := hR.cell h1.nblk (j := 8) rfl
  have n9 : w1.cell? ⟨nb, m.dst * 13 + 9, none⟩ = some (.int .i64 (st.nd m.dst).bd) := hR.cell h1.nblk (j := 9) rfl
  have n7 : w1.cell? ⟨nb, m.dst * 13 + 7, none⟩ = some (nv m.dst).p := hR.cell h1.nblk (j := 7) rfl
  have hGp : ∀ k, Gp m.dst k → G k := fun k hk => h1.Gg m.dst k hi hk
  have hHd1 := (Fr.refl (fun _ => False) w1).drew
  rcases hp with ⟨hp, hy⟩ | ⟨p, ri, hp, hy, hP⟩
  · have HP := Lib.hid (And.intro hp hy)
    rw [hy] at n7
    clear h1 hM1 hR hp hy hm
    go_quiet (fail)
    go_wp2_with fail
    refine bodyPost_ret (results_none rfl _ _ _) rfl ⟨rfl, ?_⟩
    have hst : S' = st := by rw [HS.out]; unfold promS; rw [HP.out.1]
    rw [hst]
    exact RmTo.refl (HH.out.2.2.2.1.mono (by omega)) (HH.out.2.2.1.drewN _)
  · have HP := Lib.hid (And.intro hp (And.intro hy hP))
    rw [hy] at n7
    clear h1 hR hp hy hm
    by_cases e1 : (st.nd m.dst).bn = m.n
    · by_cases e2 : (st.nd m.dst).bd = m.d
      · have HE := Lib.hid (And.intro e1 e2)
        rw [e1] at n8
        rw [e2] at n9
        clear e1 e2
        have hR1 := ready_any ri p c (Gp m.dst) w1.drew (hP.fr hHd1 (fun _ _ _ h => h))
        have HR1 := Lib.hid hR1
        have HM1 := Lib.hid hM1
        clear hR1 hP hM1
        cases hrd : readyB p with
        | true =>
          have HRD := Lib.hid hrd
          clear hrd
          go_region_held3 (fun wx => Fr (fun _ => False) w1 wx ∧ wx.cell? ⟨nb, m.dst * 13 + 7, none⟩ = some (.pointer (some ⟨ri, 0, none⟩)) ∧ wx.cell? ⟨nb, m.dst * 13 + 8, none⟩ = some (.int .u64 (m.n : Int)) ∧ wx.cell? ⟨nb, m.dst * 13 + 9, none⟩ = some (.int .i64 m.d) ∧ wx.cell? ⟨bm, 3, none⟩ = some (.int .u64 (m.n : Int)) ∧ wx.cell? ⟨bm, 4, none⟩ = some (.int .i64 m.d)) (first | exact ⟨hHd1, n7, n8, n9, m3, m4⟩ | exact hS4)
            ((go_at_call 59
              refine HR1.out.mono ?_
              rintro e w2 ⟨rfl, hf2⟩
              rw [HRD.out]
              have hd2 := hHd1.tr hf2
              have hS4 := And.intro hd2 (And.intro (hd2.cell n7 (fun h => h)) (And.intro (hd2.cell n8 (fun h => h)) (And.intro (hd2.cell n9 (fun h => h)) (And.intro (hd2.cell m3 (fun h => h)) (hd2.cell m4 (fun h => h))))))))
          all_goals
            clear n7 n8 n9 m3 m4 hS4 hf2
            go_wp2_with fail
            refine bodyPost_ret (results_none rfl _ _ _) rfl ⟨rfl, ?_⟩
            have hst : S' = st := by rw [HS.out]; unfold promS; rw [HP.out.1]; simp only; rw [if_neg (fun k => by have := k.2; rw [HRD.out] at this; cases this)]
            rw [hst]
            exact RmTo.refl (HH.out.2.2.2.1.mono (by omega)) (HH.out.2.2.1.tr hd2)
        | false =>
          have HRD := Lib.hid hrd
          clear hrd
          go_region_held3 (fun wx => Fr (fun _ => False) w1 wx ∧ wx.cell? ⟨nb, m.dst * 13 + 7, none⟩ = some (.pointer (some ⟨ri, 0, none⟩)) ∧ wx.cell? ⟨nb, m.dst * 13 + 8, none⟩ = some (.int .u64 (m.n : Int)) ∧ wx.cell? ⟨nb, m.dst * 13 + 9, none⟩ = some (.int .i64 m.d) ∧ wx.cell? ⟨bm, 3, none⟩ = some (.int .u64 (m.n : Int)) ∧ wx.cell? ⟨bm, 4, none⟩ = some (.int .i64 m.d)) (first | exact ⟨hHd1, n7, n8, n9, m3, m4⟩ | exact hS4)
            ((go_at_call 59
              refine HR1.out.mono ?_
              rintro e w2 ⟨rfl, hf2⟩
              rw [HRD.out]
              have hd2 := hHd1.tr hf2
              have hS4 := And.intro hd2 (And.intro (hd2.cell n7 (fun h => h)) (And.intro (hd2.cell n8 (fun h => h)) (And.intro (hd2.cell n9 (fun h => h)) (And.intro (hd2.cell m3 (fun h => h)) (hd2.cell m4 (fun h => h))))))))
          all_goals
            clear n7 n8 n9 m3 m4 hS4 hf2
            have h2 := HH.out.1.fr hd2 (fun _ _ h => h)
            have n7 : w2.cell? ⟨nb, m.dst * 13 + 7, none⟩ = some (.pointer (some ⟨ri, 0, none⟩)) := by rw [← HP.out.2.1]; exact (h2.ndr hi).cell h2.nblk (j := 7) rfl
            have hM2 := HM1.out.fr hd2 (fun h => h)
            have m1 := hM2.cell 1 rfl
            have m5 := hM2.cell 5 rfl
            have hd2' : Fr (fun _ => False) w1 w2.drew := hd2.drew
            have hP2 := HP.out.2.2.fr hd2' (fun _ _ _ h => h)
            have hnbG : ¬ Gp m.dst nb := (HH.out.1.dr m.dst HH.out.2.1.dst).2.1
            have hGlt : ∀ k, Gp m.dst k → k < w.heap.size := fun k hk => HH.out.2.2.2.1.lt k (HH.out.1.GF k (hGp k hk))
            have hbmG : ¬ Gp m.dst bm := fun hg => by
              have := hGlt bm hg
              have := HBM.out
              omega
            have hsz : w.heap.size ≤ w2.heap.size := (HH.out.2.2.1.tr hd2).size
            have hPr := prm_any ri p c (Gp m.dst) (m.fr : Int) (.slice A m.vs.length vc) m.vs w2.drew hP2 (fun k hk => by have := hGlt k hk; show k < w2.heap.size; omega) (by have := HH.out.2.1.len; have := HH.out.2.2.2.2.2.2; omega) ((HH.out.2.2.2.2.1.up hd2' (fun _ h => h.elim)).mono (fun k hk => HH.out.2.2.2.2.2.1 k (hGp k hk)))
            have HPr := Lib.hid hPr
            have HG := Lib.hid (And.intro hGlt hsz)
            clear hPr h2 hM2 hGlt hsz hP2
            go_wp2_with fail
            go_region_held3 (fun wx => wx.cell? ⟨nb, m.dst * 13 + 7, none⟩ = some (.pointer (some ⟨ri, 0, none⟩)) ∧ wx.cell? ⟨bm, 1, none⟩ = some (.int .i64 (m.fr : Int)) ∧ wx.cell? ⟨bm, 5, none⟩ = some (.slice A m.vs.length vc)) (first | exact ⟨n7, m1, m5⟩ | exact hS4)
              ((go_at_call 60
                refine HPr.out.mono ?_
                rintro e w3 ⟨rfl, G3, hP3, hn3, hf3⟩
                have hS4 := And.intro (hf3.cell n7 hnbG) (And.intro (hf3.cell m1 hbmG) (hf3.cell m5 hbmG))))
            all_goals
              clear n7 m1 m5
              have n7 := hS4.1
              clear hS4
              go_wp2_with fail
              refine (ready_any ri _ _ _ w3 hP3).mono ?_
              rintro e w4 ⟨rfl, hf4⟩
              have hP4 := hP3.fr hf4 (fun _ _ _ h => h)
              have hf14 : Fr (Gp m.dst) w1 w4 := (hd2'.none_up.tr hf3).tr hf4.none_up
              have hs14 := hf14.size
              have hn14 : Nx (Gp m.dst) G3 w1 w4 := fun k hk => by
                have hs1 := hd2'.size
                have hs4 := hf4.size
                rcases hn3 k hk with h | h
                · exact .inl h
                · exact .inr ⟨by omega, by omega⟩
              have hG3 : ∀ k, G3 k → k < w4.heap.size := fun k hk => by
                rcases hn14 k hk with h | h
                · have := HG.out.1 k h; have := HH.out.2.2.1.size; omega
                · exact h.2
              have hRX := HH.out.1.putP HH.out.2.1.dst (p := p) (p' := prmP p (m.fr : Int) m.vs) (ri := ri) (c' := c + m.vs.length) (Gi := G3) (F' := fun k => F k ∨ G3 k) (w' := w4) HP.out.1 HP.out.2.1 hP4 (by omega) hn14 hf14 (prmP_q _ _ _) (prmP_nd _ _ _) (prmP_f _ _ _) (fun _ => Iff.rfl) hG3
              have hNxF : Nx F (fun k => F k ∨ G3 k) w1 w4 := fun k hk => by
                rcases hk with h | h
                · exact .inl h
                · rcases hn14 k h with h | h
                  · exact .inl (HH.out.1.GF k (hGp k h))
                  · exact .inr h
              have hNxG : Nx G (fun k => G k ∨ G3 k) w1 w4 := fun k hk => by
                rcases hk with h | h
                · exact .inl h
                · rcases hn14 k h with h | h
                  · exact .inl (hGp k h)
                  · exact .inr h
              clear hf4 hf3 hd2' hn3
              cases hrd : readyB (prmP p (m.fr : Int) m.vs) with
              | false =>
                have HRD2 := Lib.hid hrd
                have HRX := Lib.hid (And.intro hRX (And.intro hf14 (And.intro hNxF hNxG)))
                clear hrd hRX hf14 hn14 hP3 hP4 hNxF hNxG
                go_wp2_with fail
                refine bodyPost_ret (results_none rfl _ _ _) rfl ⟨rfl, ?_⟩
                obtain ⟨hRX, hf14, hNxF, hNxG⟩ := HRX.out
                have hst : S' = st.upd m.dst { st.nd m.dst with p := some (prmP p (m.fr : Int) m.vs) } := by
                  rw [HS.out]; unfold promS; rw [HP.out.1]; simp only; rw [if_pos ⟨sameB_iff.2 HE.out, HRD.out⟩, if_neg (by rw [HRD2.out]; simp)]
                rw [hst]
                have hlen := HH.out.2.1.len
                have hf1 := HH.out.2.2.1
                have hs1 := hf1.size
                exact ⟨_, _, (show Rm _ _ _ _ _ _ _ from ⟨_, _, _, _, _, _, hRX⟩).mono (by omega), fun k hk => (hNxG k hk).imp id (fun h => by omega), fun k hk => (hNxF k hk).imp id (fun h => by omega), hf1.none_up.tr (hf14.mono fun k _ hk => hGp k hk)⟩
              | true =>
                have HRD2 := Lib.hid hrd
                clear hrd n7
                have hlen := HH.out.2.1.len
                have n7 : w4.cell? ⟨nb, m.dst * 13 + 7, none⟩ = some (.pointer (some ⟨ri, 0, none⟩)) := by rw [← HP.out.2.1]; exact (HH.out.1.ndr hi).cell hRX.nblk (j := 7) rfl
                have n10 : w4.cell? ⟨nb, m.dst * 13 + 10, none⟩ = some (nv m.dst).a := (HH.out.1.ndr hi).cell hRX.nblk (j := 10) rfl
                have hval := (hRX.nval m.dst hi).2.1
                have hval : RoB w4 (fun k => F k ∨ G3 k) (fun k => G k ∨ G3 k) (nv m.dst).a (st.nd m.dst).val := by
                  have e1 : (st.upd m.dst { st.nd m.dst with p := some (prmP p (m.fr : Int) m.vs) }).nd m.dst = { st.nd m.dst with p := some (prmP p (m.fr : Int) m.vs) } := by show (if m.dst = m.dst then _ else _) = _; rw [if_pos rfl]
                  rw [e1, if_pos rfl] at hval
                  exact hval
                obtain ⟨ya, yc, hya⟩ : ∃ ya yc, (nv m.dst).a = .slice ya (st.nd m.dst).val.length yc := by
                  obtain ⟨A', c', e, _⟩ := hval.1
                  exact ⟨A', c', e⟩
                rw [hya] at n10
                have hPro := fun (wx : World) (hfx : Fr (fun _ => False) w4 wx) => pro_any ri (prmP p (m.fr : Int) m.vs) (c + m.vs.length) G3 1 (by omega) (nv m.dst).a (st.nd m.dst).val wx (hP4.fr hfx (fun _ _ _ h => h)) (fun k hk => Nat.lt_of_lt_of_le (hG3 k hk) hfx.size) (by have := HH.out.2.2.2.2.2.2; omega) (hval.1.fr hfx (fun _ _ h => h))
                rw [hya] at hPro
                have HPro := Lib.hid hPro
                have HRX := Lib.hid (And.intro hRX (And.intro hf14 (And.intro hNxF (And.intro hNxG hP4.wf))))
                have hnw4 : ¬ G3 w4.heap.size := fun hg => by have := hG3 _ hg; omega
                have hneB : nb ≠ w4.heap.size := by have := hRX.nblk.lt; omega
                have hnbs : nb < w4.heap.size := hRX.nblk.lt
                have hnb3 : ¬ G3 nb := fun hg => by
                  have h1 := hRX.dr m.dst hi
                  rw [if_pos rfl] at h1
                  exact h1.2.1 hg
                have hG3' := hG3
                clear hPro hRX hf14 hP3 hP4 hNxF hNxG hval hG3
                go_upto_region 4 with (fail)
                go_cut [6] (fun x6 wr => ProTo ri (c + m.vs.length) G3 w4 (proV (prmP p (m.fr : Int) m.vs) 1 (st.nd m.dst).val) (proP (prmP p (m.fr : Int) m.vs) 1 (st.nd m.dst).val) x6 wr)
                case first =>
                  go_region_held3 (fun wx => wx.cell? ⟨nb, m.dst * 13 + 7, none⟩ = some (.pointer (some ⟨ri, 0, none⟩)) ∧ wx.cell? ⟨nb, m.dst * 13 + 10, none⟩ = some (.slice ya (st.nd m.dst).val.length yc)) (first | (simp only [ks_eq hneB, hS4.1, hS4.2, and_self]; done) | (simp only [al_eq hne5, hS4.1, hS4.2, and_self]; done) | exact ⟨n7, n10⟩ | exact ⟨(al_eq hnbs).trans n7, (al_eq hnbs).trans n10⟩)
                    (first
                      | (go_at_call 61
                         refine (HPro.out _ (Fr.refl _ w4).drew).mono ?_
                         rintro e w5 ⟨pa, pc, G5, rfl, ho5, hP5, hn5, hno5, hf5⟩
                         simp only [vtV]
                         have hS4 := And.intro (hf5.cell n7 hnb3) (hf5.cell n10 hnb3)
                         have hne5 : nb < w5.heap.size := by have h1 := hf5.size; have h2 := hnbs; have h3 : w4.drew.heap.size = w4.heap.size := rfl; omega)
                      | (go_at_call 61
                         refine (HPro.out _ ((Fr.refl _ w4).alloc _).drew).mono ?_
                         rintro e w5 ⟨pa, pc, G5, rfl, ho5, hP5, hn5, hno5, hf5⟩
                         simp only [vtV]
                         have hS4 := And.intro (hf5.cell ((al_eq hnbs).trans n7) hnb3) (hf5.cell ((al_eq hnbs).trans n10) hnb3)
                         have hBz := (z4 w4).fr hf5 hnw4
                         have z0 := hBz.cell 0 rfl
                         have z1 := hBz.cell 1 rfl
                         have z2 := hBz.cell 2 rfl
                         have z3 := hBz.cell 3 rfl
                         have zf := hBz.frozen
                         have hne5 : nb < w5.heap.size := by have h1 := hf5.size; have h2 := hnbs; have h3 : (w4.alloc (.cells #[.int .u64 0, .int .u64 0, .int .i64 0, .slice none 0 0] 46)).drew.heap.size = w4.heap.size + 1 := (by simp [World.drew]); omega))
                  all_goals
                    go_wp2_with fail
                    go_meet
                    first
                      | (have _u := hBz
                         exact proTo_B hG3' hf5 ho5 hP5 hn5 hno5)
                      | exact proTo_A hG3' hf5 ho5 hP5 hn5 hno5
                case rest =>
                  obtain ⟨bv, pa, pc, G5, rfl, hBv, hov, hP6, hn6, hnbv, hbv4, hno6, hf6⟩ := hcut
                  obtain ⟨w6, hw6⟩ : ∃ w6, w6 = wc := ⟨_, rfl⟩
                  rw [← hw6] at hBv hov hP6 hn6 hf6 ⊢
                  clear hw6
                  obtain ⟨hRX, hf14, hNxF, hNxG, hwf⟩ := HRX.out
                  obtain ⟨V, hV⟩ : ∃ V, V = proV (prmP p (m.fr : Int) m.vs) 1 (st.nd m.dst).val := ⟨_, rfl⟩
                  obtain ⟨p', hp'⟩ : ∃ p', p' = proP (prmP p (m.fr : Int) m.vs) 1 (st.nd m.dst).val := ⟨_, rfl⟩
                  rw [← hV] at hBv hov hno6
                  rw [← hp'] at hP6
                  have hf16 : Fr (Gp m.dst) w1 w6 := hf14.trans hf6 (fun k hk h => h.elim id (fun h => (hn14 k h).elim id (fun h => by omega)))
                  have hs16 := hf16.size
                  have hs46 := hf6.size
                  have hn16 : Nx (Gp m.dst) G5 w1 w6 := hn14.tr hn6 hs14 hs46
                  have hG5 : ∀ k, G5 k → k < w6.heap.size := hn6.lt hG3' hs46
                  have e1 : p'.q = p.q := by rw [hp', proP_q, prmP_q]
                  have e2 : p'.n = p.n ∧ p'.d = p.d := by rw [hp', (proP_n _ _ _).1, (proP_n _ _ _).2]; exact prmP_nd _ _ _
                  have e3 : p'.f = p.f := by rw [hp', proP_f, prmP_f]
                  have hRX6 := HH.out.1.putP HH.out.2.1.dst (p := p) (p' := p') (ri := ri) (c' := c + m.vs.length + 1) (Gi := G5) (F' := fun k => F k ∨ G5 k) (w' := w6) HP.out.1 HP.out.2.1 hP6 (by omega) hn16 hf16 e1 e2 e3 (fun _ => Iff.rfl) hG5
                  have hM6 := HM1.out.fr hf16 hbmG
                  have hx6 : NWf st.q (st.nd m.dst) := HH.out.1.wf.nd m.dst hi
                  have hpn : p.n = (st.nd m.dst).bn ∧ p.d = (st.nd m.dst).bd := ⟨(hx6.p p HP.out.1).2.1, (hx6.p p HP.out.1).2.2.1⟩
                  have hVw : VWf V := by
                    rw [hV]
                    have h5 := prmP_nd p (m.fr : Int) m.vs
                    exact proV_vwf hwf (by rw [h5.1, hpn.1]; exact hx6.bn) (by rw [h5.2, hpn.2]; exact hx6.bd0) (by rw [h5.2, hpn.2]; exact hx6.bd1)
                  have HV := Lib.hid (And.intro hV (And.intro hp' hVw))
                  have hbvnb : bv ≠ nb := fun e => by have := hnbs; omega
                  have hGw : ∀ k, G k → k < w4.heap.size := fun k hk => by have := HH.out.2.2.2.1.lt k (HH.out.2.2.2.1.GF k hk); have := HH.out.2.2.1.size; omega
                  have n8 : w6.cell? ⟨nb, m.dst * 13 + 8, none⟩ = some (.int .u64 ((st.nd m.dst).bn : Int)) := (HH.out.1.ndr hi).cell hRX6.nblk (j := 8) rfl
                  have n9 : w6.cell? ⟨nb, m.dst * 13 + 9, none⟩ = some (.int .i64 (st.nd m.dst).bd) := (HH.out.1.ndr hi).cell hRX6.nblk (j := 9) rfl
                  have m2 := hM6.cell 2 rfl
                  have v0 := hBv.cell 0 rfl
                  have v1 := hBv.cell 1 rfl
                  have v2 := hBv.cell 2 rfl
                  have v3 := hBv.cell 3 rfl
                  have hbm6 := hM6.lt
                  have hbv6 := hBv.lt
                  have hnb6 := hRX6.nblk.lt
                  have hV0 : VtL (w6.alloc (.cells #[.int .u64 V.s, .int .u64 V.n, .int .i64 V.d, .slice pa V.v.length pc] 46)).drew (.slice (some ⟨w6.heap.size, 0, none⟩) 1 1) [V] (fun k => G k ∨ G5 k) := by
                    refine vtl_one (Blk.new w6 _ _).drew (Byt.of_own (own_fr (own_base hov) ((Fr.refl (fun _ => False) w6).alloc _).drew (fun _ _ h => h))) ?_ ?_ (by have := hVw.l; unfold maxLen; omega) (by have := hVw.s; omega) (by have := hVw.n; unfold lastN at this; omega) (by have := hVw.d0; omega) (by have := hVw.d1; omega) 1
                    · rintro (h | h)
                      · have := hGw _ h; omega
                      · have := hG5 _ h; omega
                    · intro g hg _
                      rintro (h | h)
                      · have := hGw _ h; have := (hov.lt g hg).1; omega
                      · exact hno6 g hg h
                  have hR7 : Rm (w6.alloc (.cells #[.int .u64 V.s, .int .u64 V.n, .int .i64 V.d, .slice pa V.v.length pc] 46)).drew r nb (st.upd m.dst { st.nd m.dst with p := some p' }) (c + m.vs.length + 1) (fun k => G k ∨ G5 k) (fun k => F k ∨ G5 k) :=
                    (show Rm w6 _ _ _ _ _ _ from ⟨_, _, _, _, _, _, hRX6⟩).none_ ((Fr.refl (fun _ => False) w6).alloc _).drew
                  have hlm : ∀ i, i < (st.upd m.dst { st.nd m.dst with p := some p' }).N → LWf (st.upd m.dst { st.nd m.dst with p := some p' }).N { (⟨3, m.dst, 0, (st.nd m.dst).bn, (st.nd m.dst).bd, [V]⟩ : Lt) with dst := i } := fun i hiN =>
                    ⟨hi, hiN, hx6.bn, hx6.bd0, hx6.bd1, by simp, fun v hv => by have : v = V := by simpa using hv
                                                                                rw [this]; exact hVw, fun _ => by simp⟩
                  have hX8 : (¬ (G bm ∨ G5 bm)) ∧ ¬ (G bv ∨ G5 bv) := by
                    have hb1 := HM1.out.lt
                    refine ⟨fun h => h.elim (fun h => ?_) (fun h => ?_), fun h => h.elim (fun h => ?_) hnbv⟩
                    · have := HH.out.2.2.2.1.lt bm (HH.out.2.2.2.1.GF bm h); have := HBM.out; omega
                    · rcases hn16 bm h with h | h
                      · exact hbmG h
                      · omega
                    · have := hGw bv h; omega
                  have HAll := Lib.hid (all_any r nb _ _ _ _ ⟨3, m.dst, 0, (st.nd m.dst).bn, (st.nd m.dst).bd, [V]⟩ _ _ hR7 hlm hV0)
                  have HFin := Lib.hid (And.intro hf16 (And.intro hn16 hs16))
                  clear hRX hf14 hNxF hNxG hwf hf16 hn16 hs16 hs46 hG5 e1 e2 e3 hRX6 hM6 hx6 hpn hVw hV0 hR7 hlm hBv hov hP6 hn6 hno6 hf6 hGw hV hp'
                  go_upto_region 5 with (fail)
                  go_region_held3 (fun wx => wx.cell? ⟨nb, m.dst * 13 + 8, none⟩ = some (.int .u64 ((st.nd m.dst).bn : Int)) ∧ wx.cell? ⟨nb, m.dst * 13 + 9, none⟩ = some (.int .i64 (st.nd m.dst).bd) ∧ wx.cell? ⟨bm, 2, none⟩ = some (.int .i64 (m.dst : Int)) ∧ wx.cell? ⟨bv, 0, none⟩ = some (.int .u64 V.s) ∧ wx.cell? ⟨bv, 1, none⟩ = some (.int .u64 V.n) ∧ wx.cell? ⟨bv, 2, none⟩ = some (.int .i64 V.d) ∧ wx.cell? ⟨bv, 3, none⟩ = some (.slice pa V.v.length pc))
                    (first | exact hS4 | exact ⟨n8, n9, m2, v0, v1, v2, v3⟩ | exact ⟨(al_eq hnb6).trans n8, (al_eq hnb6).trans n9, (al_eq hbm6).trans m2, (al_eq hbv6).trans v0, (al_eq hbv6).trans v1, (al_eq hbv6).trans v2, (al_eq hbv6).trans v3⟩)
                    ((go_at_call 38
                      refine HAll.out.mono ?_
                      rintro e w8 ⟨rfl, hT⟩
                      obtain ⟨G8, F8, hR8, hnG8, hnF8, hf8⟩ := hT
                      have b8 := hR8.bcells (i := m.dst) (by rw [allS_N]; exact hi)
                      rw [allS_nd, upd_nd'] at b8
                      have hS4 := And.intro b8.1 (And.intro b8.2 (And.intro (hf8.cell ((al_eq hbm6).trans m2) hX8.1) (And.intro (hf8.cell ((al_eq hbv6).trans v0) hX8.2) (And.intro (hf8.cell ((al_eq hbv6).trans v1) hX8.2) (And.intro (hf8.cell ((al_eq hbv6).trans v2) hX8.2) (hf8.cell ((al_eq hbv6).trans v3) hX8.2))))))))
                  all_goals
                    clear hS4 b8 n8 n9 m2 v0 v1 v2 v3
                    refine bodyPost_end (results_none rfl _ _ _) rfl ⟨rfl, ?_⟩
                    obtain ⟨hV, hp', hVw⟩ := HV.out
                    obtain ⟨hf16, hn16, hs16⟩ := HFin.out
                    have hst : S' = allS (st.upd m.dst { st.nd m.dst with p := some p' }) ⟨3, m.dst, 0, (st.nd m.dst).bn, (st.nd m.dst).bd, [V]⟩ st.N := by
                      rw [HS.out, hV, hp']; unfold promS; rw [HP.out.1]; simp only; rw [if_pos ⟨sameB_iff.2 HE.out, HRD.out⟩, if_pos HRD2.out]
                    rw [hst]
                    have hT : RmTo ((w6.alloc (.cells #[.int .u64 V.s, .int .u64 V.n, .int .i64 V.d, .slice pa V.v.length pc] 46)).drew) r nb (allS (st.upd m.dst { st.nd m.dst with p := some p' }) ⟨3, m.dst, 0, (st.nd m.dst).bn, (st.nd m.dst).bd, [V]⟩ st.N) (c + m.vs.length + 1) (fun k => G k ∨ G5 k) (fun k => F k ∨ G5 k) w8 := ⟨G8, F8, hR8, hnG8, hnF8, hf8⟩
                    have hf1 := HH.out.2.2.1
                    have hs1 := hf1.size
                    have hf17 : Fr G w ((w6.alloc (.cells #[.int .u64 V.s, .int .u64 V.n, .int .i64 V.d, .slice pa V.v.length pc] 46)).drew) := (hf1.none_up.tr (hf16.mono fun k _ hk => hGp k hk)).tr (((Fr.refl (fun _ => False) w6).alloc _).drew).none_up
                    have hs17 : w6.heap.size ≤ ((w6.alloc (.cells #[.int .u64 V.s, .int .u64 V.n, .int .i64 V.d, .slice pa V.v.length pc] 46)).drew).heap.size := (((Fr.refl (fun _ => False) w6).alloc (.cells #[.int .u64 V.s, .int .u64 V.n, .int .i64 V.d, .slice pa V.v.length pc] 46)).drew).size
                    have hT2 := hT.of hf17 (fun k hk => hk.elim .inl (fun h => (hn16 k h).elim (fun h => .inl (hGp k h)) (fun h => .inr (by omega)))) (fun k hk => hk.elim .inl (fun h => (hn16 k h).elim (fun h => .inl (HH.out.1.GF k (hGp k h))) (fun h => .inr (by omega))))
                    exact hT2.monoC (by have := hlen; omega)
      · have HE := Lib.hid e2
        rw [e1] at n8
        have e2' : ((st.nd m.dst).bd == m.d) = false := by simp [e2]
        clear e1 hM1 hP
        go_quiet (fail)
        go_wp2_with fail
        refine bodyPost_ret (results_none rfl _ _ _) rfl ⟨rfl, ?_⟩
        have hst : S' = st := by rw [HS.out]; unfold promS; rw [HP.out.1]; simp only; rw [if_neg (fun k => HE.out (sameB_iff.1 k.1).2)]
        rw [hst]
        exact RmTo.refl (HH.out.2.2.2.1.mono (by omega)) (HH.out.2.2.1.drewN _)
    · have HE := Lib.hid e1
      have e1' : (((st.nd m.dst).bn : Int) == (m.n : Int)) = false := by simp; omega
      have e1'' : ¬ ((st.nd m.dst).bn : Int) = (m.n : Int) := by omega
      clear hM1 hP
      go_quiet (fail)
      go_wp2_with fail
      refine bodyPost_ret (results_none rfl _ _ _) rfl ⟨rfl, ?_⟩
      have hst : S' = st := by rw [HS.out]; unfold promS; rw [HP.out.1]; simp only; rw [if_neg (fun k => HE.out (sameB_iff.1 k.1).1)]
      rw [hst]
      exact RmTo.refl (HH.out.2.2.2.1.mono (by omega)) (HH.out.2.2.1.drewN _)
end Go.Proofs.Ytkpfgoalohbfeaa
