/- Take. -/
import Derived.Test.YtkpfgoalohbfeaaSK
namespace Go.Proofs.Ytkpfgoalohbfeaa
open Go.RowKit

theorem RmTo.of0 {w w2 w' : World} {r nb c : Nat} {st : Sy} {G F : Nat → Prop} (h : RmTo w2 r nb st c G F w') (hf : Fr (fun _ => False) w w2) : RmTo w r nb st c G F w' := h.of hf.none_up (Nx.refl _ _ _) (Nx.refl _ _ _)
set_option maxRecDepth 100000 in
set_option maxHeartbeats 16000000 in
theorem take_any (r nb : Nat) (st : Sy) (c : Nat) (G F : Nat → Prop) (a : Int) (w : World) (h : Rm w r nb st c G F) (hc : c + 10 < maxLen) :
    Calls Try.prog 23 #[.pointer (some ⟨r, 0, none⟩), .int .i64 a] w (BoolTo w r nb (thereB st a) (takeS st a) (c + 2) G F) := by
  have H := Lib.hid h
  have HT := Lib.hid (there_any r nb st c G F a w h)
  cases ht : thereB st a with
  | false =>
    have hn := atL_none ht
    have HN := Lib.hid (And.intro ht hn)
    clear ht hn h
    go_enter Try.func23, Try.ntmps23
    go_wp2_with fail
    refine HT.out.mono ?_
    rintro e w2 ⟨rfl, rfl⟩
    rw [HN.out.1]
    go_wp2_with fail
    go_ret
    refine ⟨rfl, ?_⟩
    unfold takeS
    rw [HN.out.2]
    exact RmTo.refl (H.out.mono (by omega)) (Fr.refl _ _)
  | true =>
    obtain ⟨m, h1, h2, h3⟩ := atL_some ht
    have hcu := cut_any r nb st c G F a.toNat m w H.out h2
    rw [← h3] at hcu
    have hm : LWf st.N m := h.wf.lt m (List.mem_of_getElem? h2)
    have HC := Lib.hid hcu
    have HN := Lib.hid (And.intro ht (And.intro h1 hm))
    clear ht h1 h2 h3 hcu h
    go_enter Try.func23, Try.ntmps23
    go_wp2_with fail
    refine HT.out.mono ?_
    rintro e w2 ⟨rfl, rfl⟩
    rw [HN.out.1]
    go_wp2_with fail
    refine HC.out.mono ?_
    rintro e w3 ⟨v, G', F', rfl, hR3, hnG, hnF, hf3, hv3⟩
    simp only [mailV]
    have hvl := hv3
    obtain ⟨⟨A, vc, rfl, -⟩, -⟩ := hvl
    obtain ⟨w4, hw4⟩ : ∃ w4, w4 = w3.alloc (.cells #[.int .i64 m.k, .int .i64 (m.fr : Int), .int .i64 (m.dst : Int), .int .u64 (m.n : Int), .int .i64 m.d, .slice A m.vs.length vc] 68) := ⟨_, rfl⟩
    have hf4 : Fr (fun _ => False) w3 w4 := by rw [hw4]; exact (Fr.refl _ w3).alloc _
    have hM4 : Blk w4 w3.heap.size 68 #[.int .i64 m.k, .int .i64 (m.fr : Int), .int .i64 (m.dst : Int), .int .u64 (m.n : Int), .int .i64 m.d, .slice A m.vs.length vc] := by rw [hw4]; exact Blk.new _ _ _
    obtain ⟨bm, hbm⟩ : ∃ b, b = w3.heap.size := ⟨_, rfl⟩
    rw [← hbm] at hM4
    have HW4 := Lib.hid (And.intro hw4 hbm)
    have hR4 := hR3.none_ hf4
    have hv4 := hv3.up hf4 (fun _ h => h.elim)
    have hi : m.dst < st.N := HN.out.2.2.dst
    obtain ⟨sv, la, lc, -, -, -, -, -, r5, -⟩ := hR4.cells
    have HR := Lib.hid (And.intro hR4 (And.intro hv4 (And.intro hnG (And.intro hnF (And.intro hf3 hf4)))))
    have hiI : (m.dst : Int) < ((st.cut a.toNat).N : Int) := by show (m.dst : Int) < (st.N : Int); omega
    have hN12 : (st.cut a.toNat).N ≤ 12 := hR4.wf.n12.2.1
    clear hw4 hbm hR3 hv3 hR4 hv4 hnG hnF hf3 hf4
    go_upto_region 4 with (fail)
    rw [← HW4.out.1, ← HW4.out.2]
    have m0 := hM4.cell 0 rfl
    have m2 := hM4.cell 2 rfl
    go_quiet (fail)
    obtain ⟨w5, hw5⟩ : ∃ w5, w5 = w4.drewN nq := ⟨_, rfl⟩
    have hd5 : Fr (fun _ => False) w4 w5 := by rw [hw5]; exact (Fr.refl _ w4).drewN _
    rw [← hw5]
    have hM5 := hM4.fr hd5 (fun h => h)
    clear hw5 m0 m2 r5 hM4
    have m0 := hM5.cell 0 rfl
    have m1 := hM5.cell 1 rfl
    have m2 := hM5.cell 2 rfl
    have m3 := hM5.cell 3 rfl
    have m4 := hM5.cell 4 rfl
    have m5 := hM5.cell 5 rfl
    have hR5 := HR.out.1.none_ hd5
    have hv5 := HR.out.2.1.up hd5 (fun _ h => h.elim)
    have hfin : ∀ st' w6, takeS st a = st' → RmTo w5 r nb st' (c + 2) G' F' w6 → RmTo w r nb (takeS st a) (c + 2) G F w6 := fun st' w6 he hT => by
      rw [he]
      have hf45 := HR.out.2.2.2.2.2.tr hd5
      have hs := hf45.size
      exact (hT.of0 hf45).of HR.out.2.2.2.2.1 HR.out.2.2.1 HR.out.2.2.2.1
    have htk : takeS st a = arrS (st.cut a.toNat) m := by unfold takeS; rw [HN.out.2.1]
    have HF := Lib.hid hfin
    have HK := Lib.hid htk
    clear hM5 hd5 hfin htk
    by_cases k1 : m.k = 1
    · have k1' : (m.k == 1) = true := by simp [k1]
      have HC := Lib.hid (prep_any r nb (st.cut a.toNat) c G' F' m A vc w5 hR5 HN.out.2.2)
      simp only [mailV, k1] at HC
      have HK1 := Lib.hid (show takeS st a = prepS (st.cut a.toNat) m by rw [HK.out]; unfold arrS; rw [if_pos k1])
      clear hR5 hv5
      go_wp2_with fail
      refine HC.out.mono ?_
      rintro e w6 ⟨rfl, hT⟩
      have HT6 := Lib.hid hT
      clear hT m0 m1 m2 m3 m4 m5
      go_wp2_with fail
      go_ret
      exact ⟨rfl, HF.out _ _ HK1.out (HT6.out.monoC (by omega))⟩
    · have k1' : (m.k == 1) = false := by simp [k1]
      by_cases k2 : m.k = 2
      · have k2' : (m.k == 2) = true := by simp [k2]
        have HC := Lib.hid (prmr_any r nb (st.cut a.toNat) c G' F' G' m (.slice A m.vs.length vc) w5 hR5 HN.out.2.2 hv5 (fun _ h => h) hc)
        simp only [mailV, k2] at HC
        have HK1 := Lib.hid (show takeS st a = promS (st.cut a.toNat) m by rw [HK.out]; unfold arrS; rw [if_neg k1, if_pos k2])
        clear hR5 hv5
        go_wp2_with fail
        refine HC.out.mono ?_
        rintro e w6 ⟨rfl, hT⟩
        have HT6 := Lib.hid hT
        clear hT m0 m1 m2 m3 m4 m5
        go_wp2_with fail
        go_ret
        exact ⟨rfl, HF.out _ _ HK1.out (HT6.out)⟩
      · have k2' : (m.k == 2) = false := by simp [k2]
        by_cases k3 : m.k = 3
        · have k3' : (m.k == 3) = true := by simp [k3]
          have HC := Lib.hid (acpt_any r nb (st.cut a.toNat) c G' F' G' m (.slice A m.vs.length vc) w5 hR5 HN.out.2.2 hv5 (fun _ h => h) (HN.out.2.2.acc k3))
          simp only [mailV, k3] at HC
          have HK1 := Lib.hid (show takeS st a = acptS (st.cut a.toNat) m by rw [HK.out]; unfold arrS; rw [if_neg k1, if_neg k2, if_pos k3])
          clear hR5 hv5
          go_wp2_with fail
          refine HC.out.mono ?_
          rintro e w6 ⟨rfl, hT⟩
          have HT6 := Lib.hid hT
          clear hT m0 m1 m2 m3 m4 m5
          go_wp2_with fail
          go_ret
          exact ⟨rfl, HF.out _ _ HK1.out (HT6.out.monoC (by omega))⟩
        · have k3' : (m.k == 3) = false := by simp [k3]
          have HC := Lib.hid (acd_any r nb (st.cut a.toNat) c G' F' m A vc w5 hR5 HN.out.2.2)
          have HK1 := Lib.hid (show takeS st a = acdS (st.cut a.toNat) m by rw [HK.out]; unfold arrS; rw [if_neg k1, if_neg k2, if_neg k3])
          clear hR5 hv5
          go_wp2_with fail
          refine HC.out.mono ?_
          rintro e w6 ⟨rfl, hT⟩
          have HT6 := Lib.hid hT
          clear hT m0 m1 m2 m3 m4 m5
          go_wp2_with fail
          go_ret
          exact ⟨rfl, HF.out _ _ HK1.out (HT6.out.monoC (by omega))⟩
end Go.Proofs.Ytkpfgoalohbfeaa
