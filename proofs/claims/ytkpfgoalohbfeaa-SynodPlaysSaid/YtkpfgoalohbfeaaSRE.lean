/- Twice, bound, mine of the document's room. -/
import Derived.Test.YtkpfgoalohbfeaaSRD
import Derived.Test.YtkpfgoalohbfeaaSW
import Derived.Deep.CutBlock
import Derived.Deep.DeepCutAuto
namespace Go.Proofs.Ytkpfgoalohbfeaa
open Go.RowKit

set_option maxRecDepth 100000 in
set_option maxHeartbeats 8000000 in
theorem rtwice_any (r nb : Nat) (st : Sy) (c : Nat) (G F : Nat → Prop) (a : Int) (w : World) (h : Rf w r nb st c G F) :
    Calls Try.prog 51 #[.pointer (some ⟨r, 0, none⟩), .int .i64 a] w fun e w' => e = .returned (.bool (twicB st a)) ∧ RfTo w r nb (twicS st a) c G F w' := by
  have HLk := Lib.hid (rlook_any r nb st c G F a w h)
  have H := Lib.hid h
  have hwf := h.wf
  clear h
  go_enter Try.func51, Try.ntmps51
  go_wp2_with fail
  refine HLk.out.mono ?_
  rintro e w1 (⟨hno, rfl, hf1⟩ | ⟨m, va, vc, hm, rfl, hv, hf1⟩)
  · have HN := Lib.hid (And.intro hno hf1)
    clear hno hf1 hwf
    obtain ⟨w2, hw2⟩ : ∃ w2, w2 = w1.alloc (.cells #[.int .i64 0, .int .i64 0, .int .i64 0, .int .u64 0, .int .i64 0, .slice none 0 0] 68) := ⟨_, rfl⟩
    have HW2 := Lib.hid hw2
    unfold mail0
    clear hw2
    go_upto_region 2 with (fail)
    rw [← HW2.out]
    go_wp2_with fail
    go_ret
    have hd : twicS st a = st := by unfold twicS; rw [HN.out.1]
    have ht : twicB st a = false := by unfold twicB; rw [HN.out.1]; rfl
    rw [hd, ht]
    exact ⟨rfl, RfTo.refl H.out (by rw [HW2.out]; exact HN.out.2.alloc _)⟩
  · obtain ⟨w2, hw2⟩ : ∃ w2, w2 = w1.alloc (.cells #[.int .i64 m.k, .int .i64 (m.fr : Int), .int .i64 (m.dst : Int), .int .u64 (m.n : Int), .int .i64 m.d, .slice va m.vs.length vc] 68) := ⟨_, rfl⟩
    have hf12 : Fr (fun _ => False) w1 w2 := by rw [hw2]; exact (Fr.refl _ w1).alloc _
    have hf2 := hf1.tr hf12
    have hM2 : Blk w2 w1.heap.size 68 #[.int .i64 m.k, .int .i64 (m.fr : Int), .int .i64 (m.dst : Int), .int .u64 (m.n : Int), .int .i64 m.d, .slice va m.vs.length vc] := by rw [hw2]; exact Blk.new _ _ _
    obtain ⟨bm, hbm⟩ : ∃ b, b = w1.heap.size := ⟨_, rfl⟩
    rw [← hbm] at hM2
    have hR2 := H.out.none_ hf2
    obtain ⟨sv, lv, cs, nv, mv, Gp, h⟩ := hR2
    obtain ⟨la, lc, hlv⟩ := own_sl5 h.lrow
    have r6 : w2.cell? ⟨r, 6, none⟩ = some (.slice la st.l.length lc) := by rw [← hlv]; exact h.blk.cell 6 rfl
    have hl200 := hwf.len
    have hs := rsend_any r nb st c G F _ m (.slice va m.vs.length vc) w2 (H.out.none_ hf2) (H.out.wf.cut_at hm) (hv.up hf2 (fun _ h => h.elim))
    have HS := Lib.hid hs
    have HN := Lib.hid (And.intro hm hf2)
    have HW2 := Lib.hid (And.intro hw2 hbm)
    simp only [mailV] at HS ⊢
    clear hw2 hbm hf12 hf2 hf1 hm hv hs h hlv hwf HLk
    go_upto_region 2 with (fail)
    rw [← HW2.out.1, ← HW2.out.2]
    clear HW2
    by_cases hlt : st.l.length < 200
    · have hlt' : ¬ (200 : Int) ≤ (st.l.length : Int) := by omega
      have m0 := hM2.cell 0 rfl
      have m1 := hM2.cell 1 rfl
      have m2 := hM2.cell 2 rfl
      have m3 := hM2.cell 3 rfl
      have m4 := hM2.cell 4 rfl
      have m5 := hM2.cell 5 rfl
      clear hM2
      go_wp2_with fail
      refine HS.out.mono ?_
      rintro e w3 ⟨rfl, hT⟩
      have HT := Lib.hid hT
      clear hT r6 m0 m1 m2 m3 m4 m5
      go_wp2_with fail
      go_ret
      refine ⟨by unfold twicB; rw [HN.out.1]; simp [hlt], ?_⟩
      unfold twicS
      rw [HN.out.1]
      exact HT.out.of0 HN.out.2
    · have hlt' : (200 : Int) ≤ (st.l.length : Int) := by omega
      clear hM2
      go_wp2_with fail
      go_ret
      refine ⟨by unfold twicB; rw [HN.out.1]; simp [hlt], ?_⟩
      unfold twicS
      rw [HN.out.1]
      show RfTo w r nb (sendS st m) c G F w2
      unfold sendS
      rw [if_neg hlt]
      exact RfTo.refl H.out HN.out.2

/-! ### bound -/
def boundN (x : Nd) (m : Lt) : Nd := if lessB m.n m.d x.pn x.pd then seesN x m else bindN x m
theorem NWf.bound {q : Qu} {x : Nd} {m : Lt} {N : Nat} (h : NWf q x) (hm : LWf N m) : NWf q (boundN x m) := by
  unfold boundN
  split
  · exact h.sees hm
  · exact h.bind hm
theorem boundN_same (x : Nd) (m : Lt) : (boundN x m).vt = x.vt ∧ (boundN x m).val = x.val ∧ (boundN x m).ln = x.ln ∧ (boundN x m).p = x.p ∧ (boundN x m).kn = x.kn ∧ (boundN x m).seen = max x.seen m.n := by
  unfold boundN
  split <;> exact ⟨rfl, rfl, rfl, rfl, rfl, rfl⟩
set_option maxRecDepth 100000 in
set_option maxHeartbeats 8000000 in
theorem rbound_any (r nb : Nat) (st : Sy) (c : Nat) (G F : Nat → Prop) (m : Lt) (A : Option Addr) (vc : Nat) (w : World) (h : Rf w r nb st c G F) (hm : LWf st.N m) :
    Calls Try.prog 78 #[.pointer (some ⟨r, 0, none⟩), mailV m (.slice A m.vs.length vc)] w fun e w' => e = .returned (.bool (!lessB m.n m.d (st.nd m.dst).pn (st.nd m.dst).pd)) ∧ RfTo w r nb (st.upd m.dst (boundN (st.nd m.dst) m)) c G F w' := by
  obtain ⟨sv, lv, cs, nv, mv, Gp, h⟩ := h
  have hi := hm.dst
  have hN := h.wf.n12
  obtain ⟨w1, hw1⟩ : ∃ w1, w1 = w.alloc (.cells #[.int .i64 m.k, .int .i64 (m.fr : Int), .int .i64 (m.dst : Int), .int .u64 (m.n : Int), .int .i64 m.d, .slice A m.vs.length vc] 68) := ⟨_, rfl⟩
  have hf1 : Fr (fun _ => False) w w1 := by rw [hw1]; exact (Fr.refl _ w).alloc _
  have hM1 : Blk w1 w.heap.size 68 #[.int .i64 m.k, .int .i64 (m.fr : Int), .int .i64 (m.dst : Int), .int .u64 (m.n : Int), .int .i64 m.d, .slice A m.vs.length vc] := by rw [hw1]; exact Blk.new _ _ _
  obtain ⟨bm, hbm⟩ : ∃ b, b = w.heap.size := ⟨_, rfl⟩
  rw [← hbm] at hM1
  have h1 := h.fr hf1 (fun _ _ h => h)
  have hR := h.ndr hi
  have HW1 := Lib.hid (And.intro hw1 hbm)
  have HH := Lib.hid (And.intro h (And.intro hm hf1))
  have r5 : w1.cell? ⟨r, 5, none⟩ = some (.slice (some ⟨nb, 0, none⟩) st.N st.N) := h1.blk.cell 5 rfl
  have n3 : w1.cell? ⟨nb, m.dst * 8 + 3, none⟩ = some (.int .u64 ((st.nd m.dst).seen : Int)) := hR.cell h1.nblk (j := 3) rfl
  have m2 := hM1.cell 2 rfl
  have m3 := hM1.cell 3 rfl
  have m4 := hM1.cell 4 rfl
  have hi0 : (0 : Int) ≤ (m.dst : Int) := by omega
  have hi1 : (m.dst : Int) < (st.N : Int) := by omega
  have nf := h1.nblk.frozen
  have HS := Lib.hid (And.intro h1 (And.intro hM1 hR))
  simp only [mailV]
  clear hw1 hbm h hf1 hm hN h1 hM1 hR
  go_enter Try.func78, Try.ntmps78
  go_upto_region 1 with (fail)
  rw [← HW1.out.1, ← HW1.out.2]
  clear HW1
  by_cases hgt : (st.nd m.dst).seen < m.n
  case' pos =>
    have hgt' : ((st.nd m.dst).seen : Int) < (m.n : Int) := by omega
    go_quiet (fail)
    have hd2 := (Fr.refl (fun _ => False) w1).drewN nq
    obtain ⟨w2, hw2⟩ : ∃ w2, w2 = w1.drewN nq := ⟨_, rfl⟩
    rw [← hw2] at hd2
    rw [← hw2]
    replace r5 := hd2.cell r5 (fun h => h)
    replace n3 := hd2.cell n3 (fun h => h)
    replace m2 := hd2.cell m2 (fun h => h)
    replace m3 := hd2.cell m3 (fun h => h)
    replace m4 := hd2.cell m4 (fun h => h)
    have nf2 := (HS.out.1.nblk.fr hd2 (fun h => h)).frozen
    have HD := Lib.hid hd2
    clear hw2 hd2 nf
    go_upto_region 2 with (fail)
    go_cut [5] (fun _ wx => wx = (w2.setCell ⟨nb, m.dst * 8 + 3, none⟩ (.int .u64 (m.n : Int))).drew)
  case' first =>
    go_region_law (fail)
    all_goals
      go_wp2_with fail
      go_meet
      exact rfl
  case' rest =>
    have hB2 := HS.out.1.nblk.fr HD.out (fun h => h)
    have hB3 := (hB2.set_ (m.dst * 8 + 3) (.int .u64 (m.n : Int))).fr (Fr.refl (fun _ => False) (w2.setCell ⟨nb, m.dst * 8 + 3, none⟩ (.int .u64 (m.n : Int)))).drew (fun h => h)
    have hf3 : Fr (fun k => k = nb) w wc := by rw [hcut]; exact ((HH.out.2.2.tr HD.out).none_up.tr (Fr.set1 w2 nb (m.dst * 8 + 3) _)).drew
    have hR3 := HS.out.2.2.set_ hi (j0 := 3) (by omega) (.int .u64 (m.n : Int))
    rw [← hcut] at hB3
    have hx : ndD (seesN (st.nd m.dst) m) (nv m.dst) = (ndD (st.nd m.dst) (nv m.dst)).set 3 (.int .u64 (m.n : Int)) := by
      unfold ndD seesN
      simp only [List.set]
      rw [show max (st.nd m.dst).seen m.n = m.n by omega]
    rw [← hx] at hR3
    have hM3 : Blk wc bm 68 #[.int .i64 m.k, .int .i64 (m.fr : Int), .int .i64 (m.dst : Int), .int .u64 (m.n : Int), .int .i64 m.d, .slice A m.vs.length vc] := by
      rw [hcut]
      exact ((HS.out.2.1.fr HD.out (fun h => h)).fr (Fr.set1 w2 nb (m.dst * 8 + 3) (.int .u64 (m.n : Int))) (fun e => (HS.out.2.1.ne_ HS.out.1.nblk (by decide)) e)).fr (Fr.refl (fun _ => False) (w2.setCell ⟨nb, m.dst * 8 + 3, none⟩ (.int .u64 (m.n : Int)))).drew (fun h => h)
    have hr5 : wc.cell? ⟨r, 5, none⟩ = some (.slice (some ⟨nb, 0, none⟩) st.N st.N) := by
      rw [hcut]
      exact ((HS.out.1.blk.fr HD.out (fun h => h)).fr (Fr.set1 w2 nb (m.dst * 8 + 3) (.int .u64 (m.n : Int))) (fun e => (HS.out.1.blk.ne_ HS.out.1.nblk (by decide)) e)).cell 5 rfl
    obtain ⟨w3, hw3⟩ : ∃ w3, w3 = wc := ⟨_, rfl⟩
    rw [← hw3] at hB3 hf3 hM3 hr5 ⊢
    obtain ⟨cs3, hcs3⟩ : ∃ cs3, cs3 = cs.setIfInBounds (m.dst * 8 + 3) (.int .u64 (m.n : Int)) := ⟨_, rfl⟩
    rw [← hcs3] at hB3 hR3
    clear hcut hw3 hcs3 hx hB2 r5 n3 m2 m3 m4 nf2 hgt hgt' HD
  case' neg =>
    have hgt' : ¬ ((st.nd m.dst).seen : Int) < (m.n : Int) := by omega
    have hx : ndD (seesN (st.nd m.dst) m) (nv m.dst) = ndD (st.nd m.dst) (nv m.dst) := by
      unfold ndD seesN
      rw [show max (st.nd m.dst).seen m.n = (st.nd m.dst).seen by omega]
    go_quiet (fail)
    go_upto_region 3 with (fail)
    have hd2 := (Fr.refl (fun _ => False) w1).drewN nq
    obtain ⟨w3, hw3⟩ : ∃ w3, w3 = w1.drewN nq := ⟨_, rfl⟩
    rw [← hw3] at hd2
    rw [← hw3]
    have hB3 := HS.out.1.nblk.fr hd2 (fun h => h)
    have hf3 : Fr (fun k => k = nb) w w3 := (HH.out.2.2.tr hd2).none_up
    have hR3 := HS.out.2.2
    rw [← hx] at hR3
    have hM3 := HS.out.2.1.fr hd2 (fun h => h)
    have hr5 : w3.cell? ⟨r, 5, none⟩ = some (.slice (some ⟨nb, 0, none⟩) st.N st.N) := (HS.out.1.blk.fr hd2 (fun h => h)).cell 5 rfl
    obtain ⟨cs3, hcs3⟩ : ∃ cs3, cs3 = cs := ⟨_, rfl⟩
    rw [← hcs3] at hB3 hR3
    clear hw3 hcs3 hx hd2 r5 n3 m2 m3 m4 nf hgt hgt'
  all_goals
    have HS3 := Lib.hid (And.intro hB3 (And.intro hR3 (And.intro hM3 hf3)))
    have n0 : w3.cell? ⟨nb, m.dst * 8, none⟩ = some (.int .u64 ((st.nd m.dst).pn : Int)) := hR3.cell hB3 (j := 0) rfl
    have n1 : w3.cell? ⟨nb, m.dst * 8 + 1, none⟩ = some (.int .i64 (st.nd m.dst).pd) := hR3.cell hB3 (j := 1) rfl
    have m2 := hM3.cell 2 rfl
    have m3 := hM3.cell 3 rfl
    have m4 := hM3.cell 4 rfl
    have r5 := hr5
    clear hB3 hR3 hM3 hf3 hr5 HS
    have hf := (Fr.refl (fun _ => False) w3).drew
    go_upto_region 3 with (fail)
    go_cut [5] (fun x5 wx => x5 = .bool (lessB m.n m.d (st.nd m.dst).pn (st.nd m.dst).pd) ∧ Fr (fun _ => False) w3 wx)
    case first =>
      first
        | go_region_held3 (fun wx => wx.cell? ⟨r, 5, none⟩ = some (.slice (some ⟨nb, 0, none⟩) st.N st.N) ∧ wx.cell? ⟨nb, m.dst * 8, none⟩ = some (.int .u64 ((st.nd m.dst).pn : Int)) ∧ wx.cell? ⟨nb, m.dst * 8 + 1, none⟩ = some (.int .i64 (st.nd m.dst).pd) ∧ wx.cell? ⟨bm, 2, none⟩ = some (.int .i64 (m.dst : Int)) ∧ wx.cell? ⟨bm, 3, none⟩ = some (.int .u64 (m.n : Int)) ∧ wx.cell? ⟨bm, 4, none⟩ = some (.int .i64 m.d)) (first | exact ⟨r5, n0, n1, m2, m3, m4⟩ | exact hS4)
          ((go_at_call 19
            refine (rless_any _ _ _ _ _).mono ?_
            rintro e w4 ⟨rfl, hf4⟩
            replace hf := hf.tr hf4
            have hS4 := And.intro (hf.cell r5 (fun h => h)) (And.intro (hf.cell n0 (fun h => h)) (And.intro (hf.cell n1 (fun h => h)) (And.intro (hf.cell m2 (fun h => h)) (And.intro (hf.cell m3 (fun h => h)) (hf.cell m4 (fun h => h))))))))
        | fail
      all_goals
        go_wp2_with fail
        go_meet
        exact ⟨rfl, hf⟩
    case rest =>
      obtain ⟨rfl, hf4⟩ := hcut
      obtain ⟨w4, hw4⟩ : ∃ w4, w4 = wc := ⟨_, rfl⟩
      rw [← hw4] at hf4 ⊢
      clear hw4 hf
      have hB4 := HS3.out.1.fr hf4 (fun h => h)
      have hf14 : Fr (fun k => k = nb) w w4 := HS3.out.2.2.2.tr hf4.none_up
      have hM4 := HS3.out.2.2.1.fr hf4 (fun h => h)
      have r5' := hf4.cell r5 (fun h => h)
      have HH2 := HH.out
      have HS4 := Lib.hid (And.intro hB4 (And.intro hf14 (And.intro hM4 r5')))
      clear r5 n0 n1 m2 m3 m4 hB4 hf14 hM4 r5' hf4
      cases hlb : lessB m.n m.d (st.nd m.dst).pn (st.nd m.dst).pd with
      | true =>
        have HL := Lib.hid hlb
        clear hlb HH2
        go_wp2_with fail
        go_ret
        have hb : boundN (st.nd m.dst) m = seesN (st.nd m.dst) m := by unfold boundN; rw [if_pos HL.out]
        rw [hb]
        have hx := HH.out.1
        have hv := (hx.nval m.dst hi).1
        have hput := hx.putS hi (x' := seesN (st.nd m.dst) m) (v' := (nv m.dst).v) HS4.out.2.1 HS4.out.1 HS3.out.2.1 hv (hx.z0 m.dst hi) rfl rfl rfl ((hx.wf.nd m.dst hi).sees HH.out.2.1)
        exact ⟨by rw [HL.out]; rfl, _, _, hput, Nx.or (fun k hk => hx.Gg m.dst k hi hk), Nx.refl _ _ _, HS4.out.2.1.mono (fun k _ e => e ▸ hx.Gn), fun _ h => h⟩
      | false =>
        have HL := Lib.hid hlb
        clear hlb HH2
        have r5 := HS4.out.2.2.2
        have m2 := HS4.out.2.2.1.cell 2 rfl
        have m3 := HS4.out.2.2.1.cell 3 rfl
        have m4 := HS4.out.2.2.1.cell 4 rfl
        have n0 : w4.cell? ⟨nb, m.dst * 8, none⟩ = some (.int .u64 ((st.nd m.dst).pn : Int)) := HS3.out.2.1.cell HS4.out.1 (j := 0) rfl
        have n1 : w4.cell? ⟨nb, m.dst * 8 + 1, none⟩ = some (.int .i64 (st.nd m.dst).pd) := HS3.out.2.1.cell HS4.out.1 (j := 1) rfl
        have nf := HS4.out.1.frozen
        go_upto_region 5 with (fail)
        go_cut [4] (fun _ wx => wx = ((w4.setCell ⟨nb, m.dst * 8, none⟩ (.int .u64 (m.n : Int))).setCell ⟨nb, m.dst * 8 + 1, none⟩ (.int .i64 m.d)).drew)
        case first =>
          go_region_law (fail)
          all_goals
            go_wp2_with fail
            go_meet
            exact rfl
        case rest =>
          have hB5 := ((HS4.out.1.set_ (m.dst * 8 + 0) (.int .u64 (m.n : Int))).set_ (m.dst * 8 + 1) (.int .i64 m.d)).fr (Fr.refl (fun _ => False) ((w4.setCell ⟨nb, m.dst * 8 + 0, none⟩ (.int .u64 (m.n : Int))).setCell ⟨nb, m.dst * 8 + 1, none⟩ (.int .i64 m.d))).drew (fun h => h)
          have hR5 := (HS3.out.2.1.set_ hi (j0 := 0) (by omega) (.int .u64 (m.n : Int))).set_ hi (j0 := 1) (by omega) (.int .i64 m.d)
          simp only [Nat.add_zero] at hB5
          rw [← hcut] at hB5
          have hf5 : Fr (fun k => k = nb) w wc := by rw [hcut]; exact (HS4.out.2.1.tr ((Fr.set1 w4 nb _ _).setCell (p := ⟨nb, m.dst * 8 + 1, none⟩) (fun _ => rfl) _)).drew
          clear hcut r5 m2 m3 m4 n0 n1 nf
          have HS5 := Lib.hid (And.intro hB5 (And.intro hR5 hf5))
          clear hB5 hR5 hf5
          go_wp2_with fail
          go_ret
          have hb : boundN (st.nd m.dst) m = bindN (st.nd m.dst) m := by unfold boundN; rw [if_neg (by rw [HL.out]; simp)]
          rw [hb]
          have hx := HH.out.1
          have hv := (hx.nval m.dst hi).1
          have hput := hx.putS hi (x' := bindN (st.nd m.dst) m) (v' := (nv m.dst).v) HS5.out.2.2 HS5.out.1 HS5.out.2.1 hv (hx.z0 m.dst hi) rfl rfl rfl ((hx.wf.nd m.dst hi).bind HH.out.2.1)
          exact ⟨by rw [HL.out]; rfl, _, _, hput, Nx.or (fun k hk => hx.Gg m.dst k hi hk), Nx.refl _ _ _, HS5.out.2.2.mono (fun k _ e => e ▸ hx.Gn), fun _ h => h⟩

/-! ### mine -/
def mineB (x : Nd) (m : Lt) : Bool := x.p.isSome && sameB x m
set_option maxRecDepth 100000 in
set_option maxHeartbeats 8000000 in
theorem rmine_any (r nb : Nat) (st : Sy) (c : Nat) (G F : Nat → Prop) (m : Lt) (A : Option Addr) (vc : Nat) (w : World) (h : Rf w r nb st c G F) (hm : LWf st.N m) :
    Calls Try.prog 84 #[.pointer (some ⟨r, 0, none⟩), mailV m (.slice A m.vs.length vc)] w fun e w' => e = .returned (.bool (mineB (st.nd m.dst) m)) ∧ Fr (fun _ => False) w w' := by
  obtain ⟨sv, lv, cs, nv, mv, Gp, h⟩ := h
  have hi := hm.dst
  have hN := h.wf.n12
  have hwn := h.wf.nd m.dst hi
  obtain ⟨w1, hw1⟩ : ∃ w1, w1 = w.alloc (.cells #[.int .i64 m.k, .int .i64 (m.fr : Int), .int .i64 (m.dst : Int), .int .u64 (m.n : Int), .int .i64 m.d, .slice A m.vs.length vc] 68) := ⟨_, rfl⟩
  have hf1 : Fr (fun _ => False) w w1 := by rw [hw1]; exact (Fr.refl _ w).alloc _
  have hM1 : Blk w1 w.heap.size 68 #[.int .i64 m.k, .int .i64 (m.fr : Int), .int .i64 (m.dst : Int), .int .u64 (m.n : Int), .int .i64 m.d, .slice A m.vs.length vc] := by rw [hw1]; exact Blk.new _ _ _
  obtain ⟨bm, hbm⟩ : ∃ b, b = w.heap.size := ⟨_, rfl⟩
  rw [← hbm] at hM1
  have h1 := h.fr hf1 (fun _ _ h => h)
  have hR := h.ndr hi
  have HW1 := Lib.hid (And.intro hw1 hbm)
  have HF := Lib.hid hf1
  have r5 : w1.cell? ⟨r, 5, none⟩ = some (.slice (some ⟨nb, 0, none⟩) st.N st.N) := h1.blk.cell 5 rfl
  have n4 : w1.cell? ⟨nb, m.dst * 8 + 4, none⟩ = some (nv m.dst).p := hR.cell h1.nblk (j := 4) rfl
  have m2 := hM1.cell 2 rfl
  have m3 := hM1.cell 3 rfl
  have m4 := hM1.cell 4 rfl
  have hi0 : (0 : Int) ≤ (m.dst : Int) := by omega
  have hi1 : (m.dst : Int) < (st.N : Int) := by omega
  have hp := h1.prop m.dst hi
  simp only [mailV]
  clear hw1 hbm h hf1 hm hN h1 hM1 hR
  go_enter Try.func84, Try.ntmps84
  go_upto_region 1 with (fail)
  rw [← HW1.out.1, ← HW1.out.2]
  clear HW1
  rcases hp with ⟨hp, hy⟩ | ⟨p, ri, rs, hp, hy, hR, hrel, -⟩
  · have HP := Lib.hid hp
    rw [hy] at n4
    clear hp hy hwn
    go_quiet (fail)
    go_wp2_with fail
    go_ret
    exact ⟨by unfold mineB; rw [HP.out]; rfl, HF.out.tr ((Fr.refl _ w1).drewN _)⟩
  · obtain ⟨w1', w2', w3', w4'⟩ := hwn.p p hp
    obtain ⟨sv', lv', sl', ml', tv', svs', hx⟩ := hR
    have p5 : w1.cell? ⟨ri, 5, none⟩ = some (.int .u64 ((st.nd m.dst).bn : Int)) := by rw [← w2', ← hrel.n]; exact hx.blk.cell 5 rfl
    have p6 : w1.cell? ⟨ri, 6, none⟩ = some (.int .i64 (st.nd m.dst).bd) := by rw [← w3', ← hrel.d]; exact hx.blk.cell 6 rfl
    have HP := Lib.hid hp
    rw [hy] at n4
    clear hp hy hx hrel hwn w1' w2' w3' w4'
    by_cases e1 : (st.nd m.dst).bn = m.n
    · by_cases e2 : (st.nd m.dst).bd = m.d
      · have HE := Lib.hid (And.intro e1 e2)
        rw [e1] at p5
        rw [e2] at p6
        clear e1 e2
        go_quiet (fail)
        go_wp2_with fail
        go_ret
        exact ⟨by unfold mineB; rw [HP.out, sameB_iff.2 HE.out]; rfl, HF.out.tr ((Fr.refl _ w1).drewN _)⟩
      · have HE := Lib.hid e2
        rw [e1] at p5
        have e2' : ((st.nd m.dst).bd == m.d) = false := by simp [e2]
        clear e1
        go_quiet (fail)
        go_wp2_with fail
        go_ret
        have hs : sameB (st.nd m.dst) m = false := by rw [Bool.eq_false_iff]; exact fun k => HE.out (sameB_iff.1 k).2
        exact ⟨by unfold mineB; rw [HP.out, hs]; rfl, HF.out.tr ((Fr.refl _ w1).drewN _)⟩
    · have HE := Lib.hid e1
      have e1' : (((st.nd m.dst).bn : Int) == (m.n : Int)) = false := by simp; omega
      have e1'' : ¬ ((st.nd m.dst).bn : Int) = (m.n : Int) := by omega
      go_quiet (fail)
      go_wp2_with fail
      go_ret
      have hs : sameB (st.nd m.dst) m = false := by rw [Bool.eq_false_iff]; exact fun k => HE.out (sameB_iff.1 k).1
      exact ⟨by unfold mineB; rw [HP.out, hs]; rfl, HF.out.tr ((Fr.refl _ w1).drewN _)⟩
end Go.Proofs.Ytkpfgoalohbfeaa
