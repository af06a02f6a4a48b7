/- arrives, Take of the document's room. -/
import Derived.Test.YtkpfgoalohbfeaaSRG
namespace Go.Proofs.Ytkpfgoalohbfeaa
open Go.RowKit

theorem upd_upd (st : Sy) (i : Nat) (x y : Nd) : (st.upd i x).upd i y = st.upd i y := by
  unfold Sy.upd
  simp only
  congr 1
  funext j
  show (if j = i then y else if j = i then x else st.nd j) = if j = i then y else st.nd j
  split <;> rfl
theorem Ro.back {w w' : World} {G G' F F' : Nat → Prop} (hn : Nx G G' w w') (hF : ∀ k, F k → F' k) (hlt : ∀ k, F k → k < w.heap.size) : ∀ k, Ro F' G' k → Ro F G k := fun k hk => by
  rcases hk with h | h
  · exact .inl fun h2 => h (hF k h2)
  · rcases hn k h with h3 | h3
    · exact .inr h3
    · exact .inl fun h2 => by have := hlt k h2; omega
theorem Rf.ltF {w : World} {r nb c : Nat} {st : Sy} {G F : Nat → Prop} (h : Rf w r nb st c G F) : ∀ k, F k → k < w.heap.size := by
  obtain ⟨sv, lv, cs, nv, mv, Gp, h⟩ := h
  exact h.lt

set_option maxRecDepth 100000 in
set_option maxHeartbeats 16000000 in
theorem rarr_any (r nb : Nat) (st : Sy) (c : Nat) (G F : Nat → Prop) (m : Lt) (A : Option Addr) (vc : Nat) (w : World) (h : Rf w r nb st c G F) (hm : LWf st.N m) (hk : m.k = 1 ∨ m.k = 2 ∨ m.k = 3 ∨ m.k = 4) (h3 : m.k = 3 → ∃ v, m.vs = [v] ∧ v.s = 1)
    (hv : VtL w (.slice A m.vs.length vc) m.vs (Ro F G)) (hc : c + 10 ≤ 1000000) :
    Calls Try.prog 70 #[.pointer (some ⟨r, 0, none⟩), mailV m (.slice A m.vs.length vc)] w fun e w' => e = .returned (.tuple #[]) ∧ RfTo w r nb (arrS st m) (c + 1) G F w' := by
  have hwf := h.wf
  have hN := hwf.n12
  have hi := hm.dst
  obtain ⟨w0, hw0⟩ : ∃ w0, w0 = w.alloc (.cells #[.int .i64 m.k, .int .i64 (m.fr : Int), .int .i64 (m.dst : Int), .int .u64 (m.n : Int), .int .i64 m.d, .slice A m.vs.length vc] 68) := ⟨_, rfl⟩
  obtain ⟨w1, hw1⟩ : ∃ w1, w1 = w0.alloc (.cells #[.int .i64 (m.k + 1), .int .i64 (m.dst : Int), .int .i64 (m.fr : Int), .int .u64 (m.n : Int), .int .i64 m.d, .slice none 0 0] 68) := ⟨_, rfl⟩
  have hf0 : Fr (fun _ => False) w w0 := by rw [hw0]; exact (Fr.refl _ w).alloc _
  have hf01 : Fr (fun _ => False) w0 w1 := by rw [hw1]; exact (Fr.refl _ w0).alloc _
  have hf1 := hf0.tr hf01
  have hM0 : Blk w0 w.heap.size 68 #[.int .i64 m.k, .int .i64 (m.fr : Int), .int .i64 (m.dst : Int), .int .u64 (m.n : Int), .int .i64 m.d, .slice A m.vs.length vc] := by rw [hw0]; exact Blk.new _ _ _
  have hK1 : Blk w1 w0.heap.size 68 #[.int .i64 (m.k + 1), .int .i64 (m.dst : Int), .int .i64 (m.fr : Int), .int .u64 (m.n : Int), .int .i64 m.d, .slice none 0 0] := by rw [hw1]; exact Blk.new _ _ _
  have hz0 : w0.heap.size = w.heap.size + 1 := by rw [hw0]; simp
  obtain ⟨bm, hbm⟩ : ∃ b, b = w.heap.size := ⟨_, rfl⟩
  rw [hz0, ← hbm] at hK1
  rw [← hbm] at hM0
  have hM1 := hM0.fr hf01 (fun h => h)
  have h1 := h.none_ hf1
  have hv1 := hv.up hf1 (fun _ h => h.elim)
  have HH := Lib.hid (And.intro h1 (And.intro hm (And.intro hv1 (And.intro hf1 (And.intro h h3)))))
  have HBd := Lib.hid (rbound_any r nb st c G F m A vc w1 h1 hm)
  have HSc := Lib.hid (rsecond_any r nb st c G F _ m A vc w1 h1 hm hv1 hc)
  have HFo := Lib.hid (rfourth_any r nb st c G F m A vc w1 h1 hm hc)
  have HW := Lib.hid (And.intro hw0 (And.intro hw1 (And.intro hbm hz0)))
  have HMK := Lib.hid (And.intro hM1 hK1)
  have hi0 : (0 : Int) ≤ (m.dst : Int) := by omega
  have hi1 : (m.dst : Int) < (st.N : Int) := by omega
  have m0 := hM0.cell 0 rfl
  have m1 := hM0.cell 1 rfl
  have m2 := hM0.cell 2 rfl
  have m3 := hM0.cell 3 rfl
  have m4 := hM0.cell 4 rfl
  have hkw : IntKind.i64.wrap (m.k + 1) = m.k + 1 := by rcases hk with h | h | h | h <;> rw [h] <;> rfl
  simp only [mailV] at HBd HSc HFo ⊢
  clear hw0 hw1 hf0 hf01 hf1 hM0 hK1 hz0 hbm hM1 h1 hv1 h hm hv h3 hwf hN
  go_enter Try.func70, Try.ntmps70
  go_upto_region 1 with (fail)
  rw [← HW.out.1, ← HW.out.2.2.1]
  go_upto_region 2 with (fail)
  rw [← HW.out.2.1, HW.out.2.2.2, ← HW.out.2.2.1]
  clear m0 m1 m2 m3 m4 hkw
  have m0 := HMK.out.1.cell 0 rfl
  have m1 := HMK.out.1.cell 1 rfl
  have m2 := HMK.out.1.cell 2 rfl
  have m3 := HMK.out.1.cell 3 rfl
  have m4 := HMK.out.1.cell 4 rfl
  have m5 := HMK.out.1.cell 5 rfl
  have hbmF : ¬ F bm ∧ ¬ F (bm + 1) := by
    have h1 := HH.out.2.2.2.2.1.ltF
    have h2 := HW.out.2.2.1
    exact ⟨fun h => by have := h1 _ h; omega, fun h => by have := h1 _ h; omega⟩
  have hbmG : ¬ G bm ∧ ¬ G (bm + 1) := by
    obtain ⟨sv, lv, cs, nv, mv, Gp, hx⟩ := HH.out.1
    exact ⟨fun h => hbmF.1 (hx.GF _ h), fun h => hbmF.2 (hx.GF _ h)⟩
  rcases hk with k1 | k2 | k3 | k4
  case inl =>
    have k1' : (m.k == 1) = true := by simp [k1]
    have HK := Lib.hid k1
    clear k1
    go_wp2_with fail
    refine HBd.out.mono ?_
    rintro e w2 ⟨rfl, hT⟩
    obtain ⟨G2, F2, hR2, hnG2, hnF2, hfr2, hFF2⟩ := hT
    have hM2 := HMK.out.1.fr hfr2 hbmG.1
    have hK2 := HMK.out.2.fr hfr2 hbmG.2
    have HT := Lib.hid (And.intro hR2 (And.intro hnG2 (And.intro hnF2 (And.intro hfr2 (And.intro hFF2 (And.intro hM2 hK2))))))
    clear hR2 hnG2 hnF2 hfr2 hFF2 hM2 hK2 m0 m1 m2 m3 m4 m5 HBd HSc HFo
    cases hlb : lessB m.n m.d (st.nd m.dst).pn (st.nd m.dst).pd with
    | true =>
      have HL := Lib.hid hlb
      clear hlb
      simp only [Bool.not_true]
      go_wp2_with fail
      refine bodyPost_end (results_none rfl _ _ _) rfl ⟨rfl, ?_⟩
      have hst : arrS st m = st.upd m.dst (boundN (st.nd m.dst) m) := by
        unfold arrS
        rw [if_pos HK.out]
        unfold prepS boundN
        rw [if_pos HL.out, if_pos HL.out]
      rw [hst]
      obtain ⟨hR2, hnG2, hnF2, hfr2, hFF2, hM2, hK2⟩ := HT.out
      exact (RfTo.monoC ⟨G2, F2, hR2, hnG2, hnF2, hfr2, hFF2⟩ (Nat.le_succ c)).of0 HH.out.2.2.2.1
    | false =>
      have HL := Lib.hid hlb
      clear hlb
      simp only [Bool.not_false]
      have hR2 := HT.out.1
      obtain ⟨sv, lv, cs, nv, mv, Gp, hx⟩ := hR2
      have r5 : w2.cell? ⟨r, 5, none⟩ = some (.slice (some ⟨nb, 0, none⟩) st.N st.N) := hx.blk.cell 5 rfl
      have n2 : w2.cell? ⟨nb, m.dst * 8 + 2, none⟩ = some (nv m.dst).v := (hx.ndr (i := m.dst) hi).cell hx.nblk (j := 2) rfl
      have hvv := (hx.nval m.dst hi).1
      rw [upd_nd', show backV (boundN (st.nd m.dst) m) = backV (st.nd m.dst) by unfold backV; rw [(boundN_same _ _).1]] at hvv
      obtain ⟨xa, xc, hxa⟩ : ∃ xa xc, (nv m.dst).v = .slice xa (backV (st.nd m.dst)).length xc := by obtain ⟨⟨A', c', e, -⟩, -⟩ := hvv; exact ⟨A', c', e⟩
      rw [hxa] at n2 hvv
      have m2 := HT.out.2.2.2.2.2.1.cell 2 rfl
      have b5 := HT.out.2.2.2.2.2.2.cell 5 rfl
      have bf := HT.out.2.2.2.2.2.2.frozen 5
      have HVv := Lib.hid hvv
      clear hx hvv hxa
      go_upto_region 6 with (fail)
      go_cut [6] (fun _ wx => wx = (w2.setCell ⟨bm + 1, 5, none⟩ (.slice xa (backV (st.nd m.dst)).length xc)).drew)
      case first =>
        go_region_law (fail)
        all_goals
          go_wp2_with fail
          go_meet
          exact rfl
      case rest =>
        have hf23 : Fr (fun k => k = bm + 1) w2 wc := by rw [hcut]; exact (Fr.set1 w2 (bm + 1) _ _).drew
        have hK3 : Blk wc (bm + 1) 68 #[.int .i64 (m.k + 1), .int .i64 (m.dst : Int), .int .i64 (m.fr : Int), .int .u64 (m.n : Int), .int .i64 m.d, .slice xa (backV (st.nd m.dst)).length xc] := by
          rw [hcut]
          simpa using (HT.out.2.2.2.2.2.2.set_ 5 (.slice xa (backV (st.nd m.dst)).length xc)).fr (Fr.refl (fun _ => False) (w2.setCell ⟨bm + 1, 5, none⟩ (.slice xa (backV (st.nd m.dst)).length xc))).drew (fun h => h)
        have hbF2 : ¬ F2 (bm + 1) := fun h => by
          rcases HT.out.2.2.1 _ h with h1 | h1
          · exact hbmF.2 h1
          · have := HMK.out.2.lt; omega
        have hR3 := HT.out.1.fr hf23 (fun k hk e => hbF2 (e ▸ hk))
        have hv3 := HVv.out.up hf23 (fun k e => by have e : k = bm + 1 := e; subst e; exact .inl hbF2)
        obtain ⟨w3, hw3⟩ : ∃ w3, w3 = wc := ⟨_, rfl⟩
        rw [← hw3] at hf23 hK3 hR3 hv3 ⊢
        have hwfn := HH.out.2.2.2.2.1.wf.nd m.dst hi
        have hlm : LWf (st.upd m.dst (boundN (st.nd m.dst) m)).N ⟨2, m.dst, m.fr, m.n, m.d, backV (st.nd m.dst)⟩ := by
          obtain ⟨b1, b2⟩ := backV_wf hwfn
          exact ⟨hi, HH.out.2.1.fr, HH.out.2.1.n, HH.out.2.1.d0, HH.out.2.1.d1, b2, b1, fun h => by cases h⟩
        have hs := rsend_any r nb (st.upd m.dst (boundN (st.nd m.dst) m)) c G2 F2 _ ⟨2, m.dst, m.fr, m.n, m.d, backV (st.nd m.dst)⟩ (.slice xa (backV (st.nd m.dst)).length xc) w3 hR3 hlm hv3
        simp only [mailV] at hs
        have HS := Lib.hid hs
        have H3 := Lib.hid (And.intro hf23 hbF2)
        have b0 := hK3.cell 0 rfl
        have b1 := hK3.cell 1 rfl
        have b2 := hK3.cell 2 rfl
        have b3 := hK3.cell 3 rfl
        have b4 := hK3.cell 4 rfl
        have b5' := hK3.cell 5 rfl
        have b0' : w3.cell? ⟨bm + 1, 0, none⟩ = some (.int .i64 2) := by rw [b0, show (#[Value.int .i64 (m.k + 1), .int .i64 (m.dst : Int), .int .i64 (m.fr : Int), .int .u64 (m.n : Int), .int .i64 m.d, .slice xa (backV (st.nd m.dst)).length xc] : Array Value)[0] = .int .i64 (m.k + 1) from rfl, HK.out]; rfl
        clear hcut hw3 hf23 hK3 hR3 hv3 hwfn hlm hs hbF2 r5 n2 m2 b5 bf b0
        go_wp2_with fail
        refine HS.out.mono ?_
        rintro e w4 ⟨rfl, hT4⟩
        have HT4 := Lib.hid hT4
        clear hT4 b0' b1 b2 b3 b4 b5'
        go_wp2_with fail
        refine bodyPost_end (results_none rfl _ _ _) rfl ⟨rfl, ?_⟩
        have hst : arrS st m = sendS (st.upd m.dst (boundN (st.nd m.dst) m)) ⟨2, m.dst, m.fr, m.n, m.d, backV (st.nd m.dst)⟩ := by
          unfold arrS
          rw [if_pos HK.out]
          unfold prepS boundN
          rw [if_neg (by rw [HL.out]; simp), if_neg (by rw [HL.out]; simp)]
        rw [hst]
        obtain ⟨hR2, hnG2, hnF2, hfr2, hFF2, hM2, hK2⟩ := HT.out
        have hs01 := HH.out.2.2.2.1.size
        have hs12 := hfr2.size
        have hs23 := H3.out.1.size
        have hfw : Fr G w w3 := (HH.out.2.2.2.1.none_up.tr hfr2).trans H3.out.1 (fun k hk h => h.elim id (fun e => by have e : k = bm + 1 := e; have := HW.out.2.2.1; omega))
        exact (RfTo.of HT4.out hfw (fun k hk => (hnG2 k hk).imp id (fun h => by omega)) (fun k hk => (hnF2 k hk).imp id (fun h => by omega)) hFF2).monoC (Nat.le_succ c)
  case inr.inl =>
    have k1' : (m.k == 1) = false := by simp [k2]
    have k2' : (m.k == 2) = true := by simp [k2]
    have HK := Lib.hid k2
    clear k2
    go_wp2_with fail
    refine HSc.out.mono ?_
    rintro e w2 ⟨rfl, hT⟩
    have HT := Lib.hid hT
    clear hT m0 m1 m2 m3 m4 m5 HBd HSc HFo
    go_wp2_with fail
    refine bodyPost_end (results_none rfl _ _ _) rfl ⟨rfl, ?_⟩
    have hst : arrS st m = promS st m := by unfold arrS; rw [if_neg (by rw [HK.out]; decide), if_pos HK.out]
    rw [hst]
    exact HT.out.of0 HH.out.2.2.2.1
  case inr.inr.inl =>
    have k1' : (m.k == 1) = false := by simp [k3]
    have k2' : (m.k == 2) = false := by simp [k3]
    have k3' : (m.k == 3) = true := by simp [k3]
    have HK := Lib.hid k3
    clear k3
    go_wp2_with fail
    refine HBd.out.mono ?_
    rintro e w2 ⟨rfl, hT⟩
    obtain ⟨G2, F2, hR2, hnG2, hnF2, hfr2, hFF2⟩ := hT
    have hM2 := HMK.out.1.fr hfr2 hbmG.1
    have hK2 := HMK.out.2.fr hfr2 hbmG.2
    have HT := Lib.hid (And.intro hR2 (And.intro hnG2 (And.intro hnF2 (And.intro hfr2 (And.intro hFF2 (And.intro hM2 hK2))))))
    clear hR2 hnG2 hnF2 hfr2 hFF2 hM2 hK2 m0 m1 m2 m3 m4 m5 HBd HSc HFo
    cases hlb : lessB m.n m.d (st.nd m.dst).pn (st.nd m.dst).pd with
    | true =>
      have HL := Lib.hid hlb
      clear hlb
      simp only [Bool.not_true]
      go_wp2_with fail
      refine bodyPost_end (results_none rfl _ _ _) rfl ⟨rfl, ?_⟩
      have hst : arrS st m = st.upd m.dst (boundN (st.nd m.dst) m) := by
        unfold arrS
        rw [if_neg (by rw [HK.out]; decide), if_neg (by rw [HK.out]; decide), if_pos HK.out]
        unfold acptS boundN
        rw [if_pos HL.out, if_pos HL.out]
      rw [hst]
      obtain ⟨hR2, hnG2, hnF2, hfr2, hFF2, hM2, hK2⟩ := HT.out
      exact (RfTo.monoC ⟨G2, F2, hR2, hnG2, hnF2, hfr2, hFF2⟩ (Nat.le_succ c)).of0 HH.out.2.2.2.1
    | false =>
      have HL := Lib.hid hlb
      clear hlb
      simp only [Bool.not_false]
      have hR2 := HT.out.1
      obtain ⟨sv, lv, cs, nv, mv, Gp, hx⟩ := hR2
      have r5 : w2.cell? ⟨r, 5, none⟩ = some (.slice (some ⟨nb, 0, none⟩) st.N st.N) := hx.blk.cell 5 rfl
      have hR := hx.ndr (i := m.dst) hi
      have n2 : w2.cell? ⟨nb, m.dst * 8 + 2, none⟩ = some (nv m.dst).v := hR.cell hx.nblk (j := 2) rfl
      have nf := hx.nblk.frozen
      have m2 := HT.out.2.2.2.2.2.1.cell 2 rfl
      have m5 := HT.out.2.2.2.2.2.1.cell 5 rfl
      have HX := Lib.hid hx
      have HR := Lib.hid hR
      clear hx hR
      go_upto_region 13 with (fail)
      go_cut [6] (fun _ wx => wx = (w2.setCell ⟨nb, m.dst * 8 + 2, none⟩ (.slice A m.vs.length vc)).drew)
      case first =>
        go_region_law (fail)
        all_goals
          go_wp2_with fail
          go_meet
          exact rfl
      case rest =>
        have hf23 : Fr (fun k => k = nb) w2 wc := by rw [hcut]; exact (Fr.set1 w2 nb _ _).drew
        have hB3 := (HX.out.nblk.set_ (m.dst * 8 + 2) (.slice A m.vs.length vc)).fr (Fr.refl (fun _ => False) (w2.setCell ⟨nb, m.dst * 8 + 2, none⟩ (.slice A m.vs.length vc))).drew (fun h => h)
        rw [← hcut] at hB3
        have hK3 := HT.out.2.2.2.2.2.2.fr hf23 (fun e => HT.out.2.2.2.2.2.2.ne_ HX.out.nblk (by decide) e)
        have hR3 := HR.out.set_ hi (j0 := 2) (by omega) (.slice A m.vs.length vc)
        obtain ⟨w3, hw3⟩ : ∃ w3, w3 = wc := ⟨_, rfl⟩
        rw [← hw3] at hf23 hK3 hB3 ⊢
        obtain ⟨hR2, hnG2, hnF2, hfr2, hFF2, hM2, hK2⟩ := HT.out
        obtain ⟨h1, hm, hv1, hf1, h0, h3⟩ := HH.out
        obtain ⟨v3, hvs3, hvs1⟩ := h3 HK.out
        have hv2 : VtL w2 (.slice A m.vs.length vc) m.vs (Ro F2 G2) := (hv1.up hfr2 (fun k hk => .inr hk)).mono (Ro.back hnG2 hFF2 h1.ltF)
        have hbN : boundN (st.nd m.dst) m = bindN (st.nd m.dst) m := by unfold boundN; rw [if_neg (by rw [HL.out]; simp)]
        have hhd : m.vs.headD zeroV = v3 := by rw [hvs3]; rfl
        have hbv : backV (voteN (st.nd m.dst) m) = m.vs := by
          unfold backV voteN
          simp only
          rw [hhd, if_pos (by omega), hvs3]
        have hwn := (h0.wf.nd m.dst hi).vote hm
        have hput := HX.out.putS (i := m.dst) hi (x' := voteN (st.nd m.dst) m) (v' := .slice A m.vs.length vc) hf23 hB3 (by
            have e : ndD (voteN (st.nd m.dst) m) ⟨.slice A m.vs.length vc, (nv m.dst).p, (nv m.dst).a, (nv m.dst).e⟩ = (ndD ((st.upd m.dst (boundN (st.nd m.dst) m)).nd m.dst) (nv m.dst)).set 2 (.slice A m.vs.length vc) := by
              rw [upd_nd', hbN]; rfl
            rw [e]; exact hR3) (by rw [hbv]; exact hv2) (fun h => by unfold voteN at h; simp only at h; rw [hhd] at h; omega) (by rw [upd_nd', hbN]; rfl) (by rw [upd_nd', hbN]; rfl) (by rw [upd_nd', hbN]; rfl) hwn
        rw [upd_upd] at hput
        have hlm : LWf (st.upd m.dst (voteN (st.nd m.dst) m)).N ⟨4, m.dst, m.fr, m.n, m.d, []⟩ :=
          ⟨hi, hm.fr, hm.n, hm.d0, hm.d1, Nat.zero_le _, fun v hv => (by cases hv), fun h => (by cases h)⟩
        have hs := rsend_any r nb (st.upd m.dst (voteN (st.nd m.dst) m)) c _ F2 (fun _ => False) ⟨4, m.dst, m.fr, m.n, m.d, []⟩ (.slice none 0 0) w3 hput hlm (VtL.nil w3 _)
        simp only [mailV] at hs
        have HS := Lib.hid hs
        have hGp : ∀ k, Gp m.dst k → G2 k := fun k hk => HX.out.Gg m.dst k hi hk
        have H3 := Lib.hid (And.intro hf23 (And.intro HX.out.Gn hGp))
        have b0 := hK3.cell 0 rfl
        have b1 := hK3.cell 1 rfl
        have b2 := hK3.cell 2 rfl
        have b3 := hK3.cell 3 rfl
        have b4 := hK3.cell 4 rfl
        have b5' := hK3.cell 5 rfl
        have b0' : w3.cell? ⟨bm + 1, 0, none⟩ = some (.int .i64 4) := by rw [b0, show (#[Value.int .i64 (m.k + 1), .int .i64 (m.dst : Int), .int .i64 (m.fr : Int), .int .u64 (m.n : Int), .int .i64 m.d, .slice none 0 0] : Array Value)[0] = .int .i64 (m.k + 1) from rfl, HK.out]; rfl
        clear hcut hw3 hf23 hK3 hR3 hB3 hs r5 n2 nf m2 m5 b0 hput hlm hwn hbv hhd hbN hv2 hvs3 hvs1 h3 h0 hf1 hv1 hm h1 hM2 hK2 hFF2 hfr2 hnF2 hnG2 hR2 hGp
        go_wp2_with fail
        refine HS.out.mono ?_
        rintro e w4 ⟨rfl, hT4⟩
        have HT4 := Lib.hid hT4
        clear hT4 b0' b1 b2 b3 b4 b5'
        go_wp2_with fail
        refine bodyPost_end (results_none rfl _ _ _) rfl ⟨rfl, ?_⟩
        have hst : arrS st m = sendS (st.upd m.dst (voteN (st.nd m.dst) m)) ⟨4, m.dst, m.fr, m.n, m.d, []⟩ := by
          unfold arrS
          rw [if_neg (by rw [HK.out]; decide), if_neg (by rw [HK.out]; decide), if_pos HK.out]
          unfold acptS
          rw [if_neg (by rw [HL.out]; simp)]
        rw [hst]
        obtain ⟨hR2, hnG2, hnF2, hfr2, hFF2, hM2, hK2⟩ := HT.out
        have hs01 := HH.out.2.2.2.1.size
        have hs12 := hfr2.size
        have hs23 := H3.out.1.size
        have hfw : Fr G w w3 := (HH.out.2.2.2.1.none_up.tr hfr2).trans H3.out.1 (fun k hk h => h.elim id (fun e => by
          have e : k = nb := e
          rcases hnG2 k (e ▸ H3.out.2.1) with h4 | h4
          · exact h4
          · omega))
        exact (RfTo.of HT4.out hfw (fun k hk => by
          have hk2 : G2 k := hk.elim id (H3.out.2.2 k)
          exact (hnG2 k hk2).imp id (fun h => by omega)) (fun k hk => (hnF2 k hk).imp id (fun h => by omega)) hFF2).monoC (Nat.le_succ c)
  case inr.inr.inr =>
    have k1' : (m.k == 1) = false := by simp [k4]
    have k2' : (m.k == 2) = false := by simp [k4]
    have k3' : (m.k == 3) = false := by simp [k4]
    have k4' : (m.k == 4) = true := by simp [k4]
    have HK := Lib.hid k4
    clear k4
    go_wp2_with fail
    refine HFo.out.mono ?_
    rintro e w2 ⟨rfl, hT⟩
    have HT := Lib.hid hT
    clear hT m0 m1 m2 m3 m4 m5 HBd HSc HFo
    go_wp2_with fail
    refine bodyPost_end (results_none rfl _ _ _) rfl ⟨rfl, ?_⟩
    have hst : arrS st m = acdS st m := by unfold arrS; rw [if_neg (by rw [HK.out]; decide), if_neg (by rw [HK.out]; decide), if_neg (by rw [HK.out]; decide)]
    rw [hst]
    exact HT.out.of0 HH.out.2.2.2.1

/-- The letter's kind is one that there is; a letter 3 brings a vote. -/
def LetOk (m : Lt) : Prop := (m.k = 1 ∨ m.k = 2 ∨ m.k = 3 ∨ m.k = 4) ∧ (m.k = 3 → ∃ v, m.vs = [v] ∧ v.s = 1)
set_option maxRecDepth 100000 in
set_option maxHeartbeats 8000000 in
theorem rtake_any (r nb : Nat) (st : Sy) (c : Nat) (G F : Nat → Prop) (a : Int) (w : World) (h : Rf w r nb st c G F) (hl : ∀ m ∈ st.l, LetOk m) (hc : c + 10 ≤ 1000000) :
    Calls Try.prog 49 #[.pointer (some ⟨r, 0, none⟩), .int .i64 a] w fun e w' => e = .returned (.bool (thereB st a)) ∧ RfTo w r nb (takeS st a) (c + 1) G F w' := by
  have HLk := Lib.hid (rlook_any r nb st c G F a w h)
  have H := Lib.hid (And.intro h hl)
  have hwf := h.wf
  clear h hl
  go_enter Try.func49, Try.ntmps49
  go_wp2_with fail
  refine HLk.out.mono ?_
  rintro e w1 (⟨hno, rfl, hf1⟩ | ⟨m, va, vc, hm, rfl, hv, hf1⟩)
  · have HN := Lib.hid (And.intro hno hf1)
    clear hno hf1 hwf
    obtain ⟨w2, hw2⟩ : ∃ w2, w2 = w1.alloc (.cells #[.int .i64 0, .int .i64 0, .int .i64 0, .int .u64 0, .int .i64 0, .slice none 0 0] 68) := ⟨_, rfl⟩
    have HW2 := Lib.hid hw2
    unfold mail0
    clear hw2
    go_upto_region 2 with (fail)
    rw [← HW2.out]
    go_wp2_with fail
    go_ret
    have hd : takeS st a = st := by unfold takeS; rw [HN.out.1]
    have ht : thereB st a = false := by unfold thereB; rw [HN.out.1]; rfl
    rw [hd, ht]
    exact ⟨rfl, RfTo.refl (H.out.1.mono (Nat.le_succ c)) (by rw [HW2.out]; exact HN.out.2.alloc _)⟩
  · obtain ⟨w2, hw2⟩ : ∃ w2, w2 = w1.alloc (.cells #[.int .i64 m.k, .int .i64 (m.fr : Int), .int .i64 (m.dst : Int), .int .u64 (m.n : Int), .int .i64 m.d, .slice va m.vs.length vc] 68) := ⟨_, rfl⟩
    have hf12 : Fr (fun _ => False) w1 w2 := by rw [hw2]; exact (Fr.refl _ w1).alloc _
    have hf2 := hf1.tr hf12
    have hM2 : Blk w2 w1.heap.size 68 #[.int .i64 m.k, .int .i64 (m.fr : Int), .int .i64 (m.dst : Int), .int .u64 (m.n : Int), .int .i64 m.d, .slice va m.vs.length vc] := by rw [hw2]; exact Blk.new _ _ _
    obtain ⟨bm, hbm⟩ : ∃ b, b = w1.heap.size := ⟨_, rfl⟩
    rw [← hbm] at hM2
    have hlm := hwf.cut_at hm
    have hin : m ∈ st.l := by
      unfold Sy.atL at hm
      split at hm
      · exact List.mem_of_getElem? hm
      · cases hm
    have hbmG : ¬ G bm := fun hg => by
      have h1 := H.out.1.ltF
      obtain ⟨sv, lv, cs, nv, mv, Gp, hx⟩ := H.out.1
      have := h1 bm (hx.GF bm hg)
      have := hf1.size
      omega
    have hdr := rdrop_any r nb st c G F a w2 (H.out.1.none_ hf2)
    have HD := Lib.hid hdr
    have ht : thereB st a = true := by unfold thereB; rw [hm]; rfl
    have HN := Lib.hid (And.intro hm (And.intro hf2 (And.intro hlm (And.intro (H.out.2 m hin) (And.intro hv (And.intro hbmG (And.intro hM2 ht)))))))
    have HW2 := Lib.hid (And.intro hw2 hbm)
    simp only [mailV]
    clear hw2 hbm hf12 hf2 hf1 hm hv hdr hwf HLk hlm hin hbmG hM2 ht
    go_upto_region 2 with (fail)
    rw [← HW2.out.1, ← HW2.out.2]
    clear HW2
    go_wp2_with fail
    refine HD.out.mono ?_
    rintro e w3 ⟨rfl, hT⟩
    obtain ⟨hm, hf2, hlm, hlok, hv, hbmG, hM2, ht⟩ := HN.out
    have hds : dropS st a = st.cut a.toNat := by unfold dropS; rw [hm]
    rw [hds] at hT
    obtain ⟨G3, F3, hR3, hnG3, hnF3, hfr3, hFF3⟩ := hT
    have hM3 := hM2.fr hfr3 hbmG
    have hv3 : VtL w3 (.slice va m.vs.length vc) m.vs (Ro F3 G3) := ((hv.up hf2 (fun _ h => h.elim)).up hfr3 (fun k hk => .inr hk)).mono (Ro.back hnG3 hFF3 (fun k hk => Nat.lt_of_lt_of_le (H.out.1.ltF k hk) hf2.size))
    have har := rarr_any r nb (st.cut a.toNat) c G3 F3 m va vc w3 hR3 hlm hlok.1 hlok.2 hv3 hc
    simp only [mailV] at har
    have HA := Lib.hid har
    have HT := Lib.hid (And.intro hR3 (And.intro hnG3 (And.intro hnF3 (And.intro hfr3 hFF3))))
    have m0 := hM3.cell 0 rfl
    have m1 := hM3.cell 1 rfl
    have m2 := hM3.cell 2 rfl
    have m3 := hM3.cell 3 rfl
    have m4 := hM3.cell 4 rfl
    have m5 := hM3.cell 5 rfl
    clear hm hf2 hlm hlok hv hbmG hM2 ht hds hR3 hnG3 hnF3 hfr3 hFF3 hM3 hv3 har HD
    go_wp2_with fail
    refine HA.out.mono ?_
    rintro e w4 ⟨rfl, hT4⟩
    have HT4 := Lib.hid hT4
    clear hT4 m0 m1 m2 m3 m4 m5 HA
    go_wp2_with fail
    go_ret
    obtain ⟨hm, hf2, hlm, hlok, hv, hbmG, hM2, ht⟩ := HN.out
    obtain ⟨hR3, hnG3, hnF3, hfr3, hFF3⟩ := HT.out
    have hst : takeS st a = arrS (st.cut a.toNat) m := by unfold takeS; rw [hm]
    rw [hst, ht]
    exact ⟨rfl, (RfTo.of HT4.out hfr3 hnG3 hnF3 hFF3).of0 hf2⟩
end Go.Proofs.Ytkpfgoalohbfeaa
