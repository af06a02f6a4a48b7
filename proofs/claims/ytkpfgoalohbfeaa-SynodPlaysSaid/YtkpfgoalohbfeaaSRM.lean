/- alike: both rooms tell the same. -/
import Derived.Test.YtkpfgoalohbfeaaSRL
import Derived.Test.YtkpfgoalohbfeaaSZb
namespace Go.Proofs.Ytkpfgoalohbfeaa
open Go.RowKit

set_option maxRecDepth 100000 in
set_option maxHeartbeats 32000000 in
theorem alike_any (r nb : Nat) (st : Sy) (c : Nat) (G F : Nat → Prop) (r' nb' c' : Nat) (G' F' : Nat → Prop) (w : World) (h : Rm w r nb st c G F) (h' : Rf w r' nb' st c' G' F') :
    Calls Try.prog 27 #[.pointer (some ⟨r, 0, none⟩), .pointer (some ⟨r', 0, none⟩)] w fun e w' => e = .returned (.bool true) ∧ Fr (fun _ => False) w w' := by
  have hwf := h.wf
  have hN12 := hwf.n12.2.1
  have hl200 := hwf.len
  obtain ⟨sv, lv, cs, nv, mv, Gp, hx⟩ := h'
  obtain ⟨la, lc, hlv⟩ := own_sl5 hx.lrow
  have r6 : w.cell? ⟨r', 6, none⟩ = some (.slice la st.l.length lc) := by rw [← hlv]; exact hx.blk.cell 6 rfl
  have HX := Lib.hid (And.intro h (And.intro hx (And.intro hlv hwf)))
  have HLn := Lib.hid (fun (wx : World) (hfx : Fr (fun _ => False) w wx) => len_any r nb st c G F wx (h.none_ hfx))
  have hf := (Fr.refl (fun _ => False) w).drew
  clear h hx hlv hwf
  go_enter Try.func27, Try.ntmps27
  go_upto_region 1 with (fail)
  go_cut [22] (fun x22 wx => x22 = .bool false ∧ Fr (fun _ => False) w wx)
  case first =>
    first
      | go_region_held3 (fun wx => wx.cell? ⟨r', 6, none⟩ = some (.slice la st.l.length lc)) (first | exact r6 | exact hS4)
          ((go_at_call 20
            refine (HLn.out _ hf).mono ?_
            rintro e w2 ⟨rfl, rfl⟩
            have hS4 := hf.cell r6 (fun h => h)))
      | fail
    all_goals
      go_wp2_with fail
      go_meet
      exact ⟨rfl, hf⟩
  case rest =>
    obtain ⟨rfl, hfc⟩ := hcut
    clear hf r6
    go_wp2_with fail
    go_loopg [5] st.l.length (fun g x5 wr => ∃ j : Nat, j + g = st.l.length ∧ x5 = .int .i64 j ∧ Fr (fun _ => False) w wr)
    case atStart => exact ⟨0, by omega, rfl, hfc⟩
    case round =>
      obtain ⟨j, hj, rfl, hfr⟩ := hrel
      have HJ := Lib.hid hj
      have hjle : j ≤ st.l.length := by omega
      have r6 : wr.cell? ⟨r', 6, none⟩ = some (.slice la st.l.length lc) := by rw [← HX.out.2.2.1]; exact (HX.out.2.1.blk.fr hfr (fun h => h)).cell 6 rfl
      have HR := Lib.hid hfr
      clear hj hfr
      by_cases hjl : j < st.l.length
      · obtain ⟨h, hx, hlv, hwf⟩ := HX.out
        obtain ⟨m, hm⟩ : ∃ m, st.l[j]? = some m := ⟨_, List.getElem?_eq_getElem hjl⟩
        obtain ⟨v, hv⟩ : ∃ v, mv[j]? = some v := ⟨_, List.getElem?_eq_getElem (by rw [hx.mlen]; exact hjl)⟩
        have hvl := hx.lval j m v hm hv
        obtain ⟨g, lc2, cur, hlv2, -, hgB, -⟩ : ∃ g cap cur, lv = .slice (some ⟨g, 0, none⟩) st.l.length cap ∧ 0 ≤ g ∧ Blk w g 68 cur ∧ st.l.length ≤ cap ∧ cap ≤ maxLen ∧ cur.size = cap * 6 ∧ cur.toList.take (st.l.length * 6) = flatM st.l mv := by
          rcases own_form hx.lrow with ⟨_, h0, _⟩ | h1
          · omega
          · exact h1
        have hla : la = some ⟨g, 0, none⟩ := by rw [hlv] at hlv2; injection hlv2
        have hat : st.atL (j : Int) = some m := by
          unfold Sy.atL
          rw [if_pos (by omega), Int.toNat_natCast]
          exact hm
        have hrow := hx.lrow
        rw [hlv2] at hrow
        obtain ⟨q0, q1, q2, q3, q4, q5⟩ := flatM_get st.l mv j m _ hm hv
        have l0 := own_cell hrow _ q0
        have l1 := own_cell hrow _ q1
        have l2 := own_cell hrow _ q2
        have l3 := own_cell hrow _ q3
        have l4 := own_cell hrow _ q4
        have l5 := own_cell hrow _ q5
        obtain ⟨vA, vC, rfl⟩ : ∃ A c, v = .slice A m.vs.length c := by obtain ⟨⟨A, c, h, -⟩, -⟩ := hvl; exact ⟨A, c, h⟩
        have HLk := Lib.hid (look_any r nb st c G F (j : Int) wr (h.none_ HR.out))
        have HM := Lib.hid (And.intro hat (And.intro hvl (And.intro hm (hwf.lt m (List.mem_of_getElem? hm)))))
        have HLl := Lib.hid (And.intro l0 (And.intro l1 (And.intro l2 (And.intro l3 (And.intro l4 l5)))))
        subst hla
        clear h hx hlv hwf hm hv hvl hlv2 hgB hat hrow q0 q1 q2 q3 q4 q5 l0 l1 l2 l3 l4 l5
        go_wp2_with fail
        refine HLk.out.mono ?_
        rintro e w2 (⟨hno, -⟩ | ⟨m', va2, vc2, vs2, hm', rfl, hC⟩)
        · rw [HM.out.1] at hno; cases hno
        obtain rfl : m = m' := by rw [HM.out.1] at hm'; injection hm'
        obtain ⟨w3, hw3⟩ : ∃ w3, w3 = w2.alloc (.cells #[.int .i64 m.k, .int .i64 (m.fr : Int), .int .i64 (m.dst : Int), .int .u64 (m.n : Int), .int .i64 m.d, .slice va2 m.vs.length vc2] 68) := ⟨_, rfl⟩
        have hf3 : Fr (fun _ => False) w2 w3 := by rw [hw3]; exact (Fr.refl _ w2).alloc _
        have hM3 : Blk w3 w2.heap.size 68 #[.int .i64 m.k, .int .i64 (m.fr : Int), .int .i64 (m.dst : Int), .int .u64 (m.n : Int), .int .i64 m.d, .slice va2 m.vs.length vc2] := by rw [hw3]; exact Blk.new _ _ _
        obtain ⟨bm, hbm⟩ : ∃ b, b = w2.heap.size := ⟨_, rfl⟩
        rw [← hbm] at hM3
        have hfw : Fr (fun _ => False) w w3 := (HR.out.tr hC.fr).tr hf3
        have hV1 := (hC.up hf3).vtl (fun p hp => vtm_of (HM.out.2.2.2.vs p hp)) (by have := HM.out.2.2.2.len; unfold maxLen; omega)
        have hV2 := HM.out.2.1.up hfw (fun _ h => h.elim)
        have HSm := Lib.hid (fun (wx : World) (hfx : Fr (fun _ => False) w3 wx) => msame_any m _ _ _ _ wx (hV1.up hfx (fun _ h => h.elim)) (hV2.up hfx (fun _ h => h.elim)))
        have HW3 := Lib.hid (And.intro hw3 (And.intro hbm hfw))
        have r6' := (hC.fr.tr hf3).cell r6 (fun h => h)
        have hjn0 : (0 : Int) ≤ (j : Int) := by omega
        have hjn : (j : Int) < (st.l.length : Int) := by omega
        clear hw3 hbm hf3 hV1 hV2 hC hm' HLk r6 hfw
        simp only [mailV] at HSm ⊢
        go_upto_region 7 with (fail)
        rw [← HW3.out.1, ← HW3.out.2.1]
        have m0 := hM3.cell 0 rfl
        have m1 := hM3.cell 1 rfl
        have m2 := hM3.cell 2 rfl
        have m3 := hM3.cell 3 rfl
        have m4 := hM3.cell 4 rfl
        have m5 := hM3.cell 5 rfl
        obtain ⟨l0, l1, l2, l3, l4, l5⟩ := HLl.out
        replace l0 := HW3.out.2.2.cell l0 (fun h => h)
        replace l1 := HW3.out.2.2.cell l1 (fun h => h)
        replace l2 := HW3.out.2.2.cell l2 (fun h => h)
        replace l3 := HW3.out.2.2.cell l3 (fun h => h)
        replace l4 := HW3.out.2.2.cell l4 (fun h => h)
        replace l5 := HW3.out.2.2.cell l5 (fun h => h)
        have hf := (Fr.refl (fun _ => False) w3).drew
        have m0 : w3.cell? ⟨bm, 0, none⟩ = some (.int .i64 m.k) := m0
        clear hM3
        go_cut [51] (fun x51 wx => x51 = .bool false ∧ Fr (fun _ => False) w3 wx)
        case first =>
          have hjn2 : ¬ (st.l.length : Int) ≤ (j : Int) := by omega
          first
            | go_region_held3 (fun wx => wx.cell? ⟨r', 6, none⟩ = some (.slice (some ⟨g, 0, none⟩) st.l.length lc) ∧ wx.cell? ⟨bm, 0, none⟩ = some (.int .i64 m.k) ∧ wx.cell? ⟨bm, 1, none⟩ = some (.int .i64 (m.fr : Int)) ∧ wx.cell? ⟨bm, 2, none⟩ = some (.int .i64 (m.dst : Int)) ∧ wx.cell? ⟨bm, 3, none⟩ = some (.int .u64 (m.n : Int)) ∧ wx.cell? ⟨bm, 4, none⟩ = some (.int .i64 m.d) ∧ wx.cell? ⟨bm, 5, none⟩ = some (.slice va2 m.vs.length vc2) ∧ wx.cell? ⟨g, j * 6, none⟩ = some (.int .i64 m.k) ∧ wx.cell? ⟨g, j * 6 + 1, none⟩ = some (.int .i64 (m.fr : Int)) ∧ wx.cell? ⟨g, j * 6 + 2, none⟩ = some (.int .i64 (m.dst : Int)) ∧ wx.cell? ⟨g, j * 6 + 3, none⟩ = some (.int .u64 (m.n : Int)) ∧ wx.cell? ⟨g, j * 6 + 4, none⟩ = some (.int .i64 m.d) ∧ wx.cell? ⟨g, j * 6 + 5, none⟩ = some (.slice vA m.vs.length vC)) (first | exact ⟨r6', m0, m1, m2, m3, m4, m5, l0, l1, l2, l3, l4, l5⟩ | exact hS4)
                ((go_at_call 31
                  refine (HSm.out _ hf).mono ?_
                  rintro e w4 ⟨rfl, hf4⟩
                  replace hf4 := hf.tr hf4
                  have hS4 := (And.intro (hf4.cell r6' (fun h => h)) (And.intro (hf4.cell m0 (fun h => h)) (And.intro (hf4.cell m1 (fun h => h)) (And.intro (hf4.cell m2 (fun h => h)) (And.intro (hf4.cell m3 (fun h => h)) (And.intro (hf4.cell m4 (fun h => h)) (And.intro (hf4.cell m5 (fun h => h)) (And.intro (hf4.cell l0 (fun h => h)) (And.intro (hf4.cell l1 (fun h => h)) (And.intro (hf4.cell l2 (fun h => h)) (And.intro (hf4.cell l3 (fun h => h)) (And.intro (hf4.cell l4 (fun h => h)) (hf4.cell l5 (fun h => h))))))))))))))))
            | fail
          all_goals
            go_wp2_with fail
            go_meet
            exact ⟨rfl, hf4⟩
        case rest =>
          obtain ⟨rfl, hfc2⟩ := hcut
          have HF2 := Lib.hid (HW3.out.2.2.tr hfc2)
          clear hfc2 m0 m1 m2 m3 m4 m5 l0 l1 l2 l3 l4 l5 r6' hf
          go_wp2_with fail
          go_roundg (st.l.length - (j + 1))
          case measure => have := HJ.out; omega
          case rel => exact ⟨j + 1, by have := HJ.out; omega, by go_num, HF2.out⟩
      · have hje : j = st.l.length := by omega
        subst hje
        go_wp2_with fail
        clear r6
        go_loopg [8] st.N (fun g x8 wr => ∃ k : Nat, k + g = st.N ∧ x8 = .int .i64 k ∧ Fr (fun _ => False) w wr)
        case atStart => exact ⟨0, by omega, rfl, HR.out⟩
        case round =>
          clear HR HJ hjl hjle
          obtain ⟨k, hk, rfl, hfr⟩ := hrel
          have HK := Lib.hid hk
          have hkle : k ≤ st.N := by omega
          have r5 : wr.cell? ⟨r', 5, none⟩ = some (.slice (some ⟨nb', 0, none⟩) st.N st.N) := (HX.out.2.1.blk.fr hfr (fun h => h)).cell 5 rfl
          have HR := Lib.hid hfr
          clear hk hfr
          by_cases hkN : k < st.N
          · have hk0 : (0 : Int) ≤ (k : Int) := by omega
            have hk1 : (k : Int) < (st.N : Int) := by omega
            have hk2 : (k : Int) < 12 := by omega
            obtain ⟨h, hx, hlv, hwf⟩ := HX.out
            have hin : inSy st (k : Int) = true := by
              unfold inSy
              rw [decide_eq_true_eq]
              have h1 := hwf.n12.2.2
              omega
            obtain ⟨X, hX⟩ : ∃ X, X = st.nd k := ⟨_, rfl⟩
            have hlr : lrnB st (k : Int) = if X.kn = true then some X.ln else none := by unfold lrnB; rw [hin, Int.toNat_natCast, hX]; simp
            have HLr := Lib.hid (lrn_any r nb st c G F (k : Int) wr (h.none_ HR.out))
            have HVo := Lib.hid (fun (wx : World) (hfx : Fr (fun _ => False) w wx) => voted_any r nb st c G F (k : Int) wx (h.none_ hfx))
            rw [show votN st (k : Int) = X.pn by unfold votN; rw [if_pos hin, Int.toNat_natCast, hX], show votD st (k : Int) = X.pd by unfold votD; rw [if_pos hin, Int.toNat_natCast, hX], show votV st (k : Int) = X.vt by unfold votV; rw [if_pos hin, Int.toNat_natCast, hX]] at HVo
            obtain ⟨hn1, hn2, hn3⟩ := hx.nval k hkN
            have hz0 := hx.z0 k hkN
            have hR := hx.ndr hkN
            have hpp : ∃ pp, (nv k).p = .pointer pp := by rcases hx.prop k hkN with ⟨-, e⟩ | ⟨p, ri, rs, -, e, -⟩; exact ⟨_, e⟩; exact ⟨_, e⟩
            have hvw := (hwf.nd k hkN).vt
            rw [← hX] at hn1 hn2 hn3 hz0 hR hvw
            obtain ⟨pp, hpp⟩ := hpp
            obtain ⟨ya, yc, hya, hyg⟩ := hn1.ex
            obtain ⟨za, zc, hza⟩ : ∃ za zc, (nv k).a = .slice za X.val.length zc := by obtain ⟨⟨A', c', e, -⟩, -⟩ := hn2; exact ⟨A', c', e⟩
            obtain ⟨ua, uc, hua⟩ : ∃ za zc, (nv k).e = .slice za X.ln.length zc := by obtain ⟨⟨A', c', e, -⟩, -⟩ := hn3; exact ⟨A', c', e⟩
            have hle := hn3.1
            rw [hua] at hle
            have n0 : w.cell? ⟨nb', k * 8, none⟩ = some (.int .u64 (X.pn : Int)) := hR.cell hx.nblk (j := 0) rfl
            have n1 : w.cell? ⟨nb', k * 8 + 1, none⟩ = some (.int .i64 X.pd) := hR.cell hx.nblk (j := 1) rfl
            have n2 : w.cell? ⟨nb', k * 8 + 2, none⟩ = some (nv k).v := hR.cell hx.nblk (j := 2) rfl
            have n3 : w.cell? ⟨nb', k * 8 + 3, none⟩ = some (.int .u64 (X.seen : Int)) := hR.cell hx.nblk (j := 3) rfl
            have n4 : w.cell? ⟨nb', k * 8 + 4, none⟩ = some (nv k).p := hR.cell hx.nblk (j := 4) rfl
            have n5 : w.cell? ⟨nb', k * 8 + 5, none⟩ = some (nv k).a := hR.cell hx.nblk (j := 5) rfl
            have n6 : w.cell? ⟨nb', k * 8 + 6, none⟩ = some (nv k).e := hR.cell hx.nblk (j := 6) rfl
            have n7 : w.cell? ⟨nb', k * 8 + 7, none⟩ = some (.bool X.kn) := hR.cell hx.nblk (j := 7) rfl
            rw [hya] at n2
            rw [hpp] at n4
            rw [hza] at n5
            rw [hua] at n6
            have HN := Lib.hid (And.intro n0 (And.intro n1 (And.intro n2 (And.intro n3 (And.intro n4 (And.intro n5 (And.intro n6 n7)))))))
            have HV := Lib.hid (And.intro hyg (And.intro hz0 (And.intro hvw hle)))
            have HL := Lib.hid hlr
            clear h hx hlv hwf hin hlr hn1 hn2 hn3 hz0 hR hvw hpp hya hyg hza hua hle n0 n1 n2 n3 n4 n5 n6 n7 hX
            obtain ⟨pn, hpn⟩ : ∃ pn, pn = X.pn := ⟨_, rfl⟩
            obtain ⟨pd, hpd⟩ : ∃ pd, pd = X.pd := ⟨_, rfl⟩
            obtain ⟨V, hV⟩ : ∃ V, V = X.vt := ⟨_, rfl⟩
            rw [← hpn, ← hpd] at HVo HN
            rw [← hV] at HVo HV
            have HVE := Lib.hid hV
            clear hpn hpd hV
            go_wp2_with fail
            refine HLr.out.mono ?_
            rintro e w2 ⟨ra, rc, rfl, ho2, hf2⟩
            rw [HL.out] at ho2 ⊢
            have HR2 := Lib.hid (And.intro (HR.out.tr hf2) (And.intro hf2 (own_base ho2)))
            have r5' := hf2.cell r5 (fun h => h)
            clear ho2 hf2 HLr r5
            generalize hlu : (if X.kn = true then some X.ln else none) = LU at HL HR2 ⊢
            have HLU := Lib.hid hlu
            clear hlu
            go_wp2_with fail
            refine (HVo.out _ HR2.out.1).mono ?_
            rintro e w3 ⟨xa, xc, rfl, ho3, hf3⟩
            obtain ⟨w4, hw4⟩ : ∃ w4, w4 = (w3.alloc (.cells #[.int .u64 (pn : Int), .int .i64 pd] 44)).alloc (.cells #[.int .u64 V.s, .int .u64 V.n, .int .i64 V.d, .slice xa V.v.length xc] 46) := ⟨_, rfl⟩
            have hf4 : Fr (fun _ => False) w3 w4 := by rw [hw4]; exact ((Fr.refl _ w3).alloc _).alloc _
            have hB4 : Blk w4 w3.heap.size 44 #[.int .u64 (pn : Int), .int .i64 pd] := by rw [hw4]; exact (Blk.new _ _ _).alloc _
            have hC4 : Blk w4 (w3.heap.size + 1) 46 #[.int .u64 V.s, .int .u64 V.n, .int .i64 V.d, .slice xa V.v.length xc] := by
              have := Blk.new (w3.alloc (.cells #[.int .u64 (pn : Int), .int .i64 pd] 44)) 46 #[.int .u64 V.s, .int .u64 V.n, .int .i64 V.d, .slice xa V.v.length xc]
              rw [hw4]; simpa using this
            obtain ⟨bb, hbb⟩ : ∃ b, b = w3.heap.size := ⟨_, rfl⟩
            rw [← hbb] at hB4 hC4
            have hW4 := (HR2.out.1.tr hf3).tr hf4
            have HB4 := Lib.hid (And.intro (Byt.of_own (own_base (own_fr ho3 hf4 (fun _ _ h => h)))) (And.intro (Byt.of_own (own_fr HR2.out.2.2 (hf3.tr hf4) (fun _ _ h => h))) (And.intro hB4 (And.intro hC4 hW4))))
            have HW4 := Lib.hid (And.intro hw4 hbb)
            have r5 := (hf3.tr hf4).cell r5' (fun h => h)
            have HX4 := Lib.hid (And.intro (HR2.out.2.1.tr (hf3.tr hf4)) True.intro)
            obtain ⟨n0, n1, n2, n3, n4, n5, n6, n7⟩ := HN.out
            replace n0 := hW4.cell n0 (fun h => h)
            replace n1 := hW4.cell n1 (fun h => h)
            replace n2 := hW4.cell n2 (fun h => h)
            replace n3 := hW4.cell n3 (fun h => h)
            replace n4 := hW4.cell n4 (fun h => h)
            replace n5 := hW4.cell n5 (fun h => h)
            replace n6 := hW4.cell n6 (fun h => h)
            replace n7 := hW4.cell n7 (fun h => h)
            clear hw4 hbb hf3 hf4 ho3 hB4 hC4 hW4 r5'
            go_upto_region 14 with (fail)
            rw [← HW4.out.1, ← HW4.out.2]
            obtain ⟨w5, hw5⟩ : ∃ w5, w5 = w4.alloc (.cells #[.int .u64 (pn : Int), .int .i64 pd, .slice ya (backV X).length yc, .int .u64 (X.seen : Int), .pointer pp, .slice za X.val.length zc, .slice ua X.ln.length uc, .bool X.kn] 104) := ⟨_, rfl⟩
            obtain ⟨w6, hw6⟩ : ∃ w6, w6 = w5.alloc (.cells #[.int .u64 0, .int .u64 0, .int .i64 0, .slice none 0 0] 46) := ⟨_, rfl⟩
            have hf5 : Fr (fun _ => False) w4 w5 := by rw [hw5]; exact (Fr.refl _ w4).alloc _
            have hf6 : Fr (fun _ => False) w5 w6 := by rw [hw6]; exact (Fr.refl _ w5).alloc _
            have hN5 : Blk w5 w4.heap.size 104 #[.int .u64 (pn : Int), .int .i64 pd, .slice ya (backV X).length yc, .int .u64 (X.seen : Int), .pointer pp, .slice za X.val.length zc, .slice ua X.ln.length uc, .bool X.kn] := by rw [hw5]; exact Blk.new _ _ _
            have hZ6 : Blk w6 w5.heap.size 46 #[.int .u64 0, .int .u64 0, .int .i64 0, .slice none 0 0] := by rw [hw6]; exact Blk.new _ _ _
            obtain ⟨bn, hbn⟩ : ∃ b, b = w4.heap.size := ⟨_, rfl⟩
            obtain ⟨bz, hbz⟩ : ∃ b, b = w5.heap.size := ⟨_, rfl⟩
            rw [← hbn] at hN5
            rw [← hbz] at hZ6
            have hN6 := hN5.fr hf6 (fun h => h)
            obtain ⟨hxb, hrb, hB4, hC4, hW4⟩ := HB4.out
            have hf46 := hf5.tr hf6
            have H6 := Lib.hid (And.intro (hxb.fr hf46 (fun _ _ h => h)) (And.intro (hrb.fr hf46 (fun _ _ h => h)) (And.intro (hB4.fr hf46 (fun h => h)) (And.intro (hC4.fr hf46 (fun h => h)) (And.intro (hW4.tr hf46) (And.intro hN6 hZ6))))))
            have HW5 := Lib.hid (And.intro hw5 hbn)
            have HW6 := Lib.hid (And.intro hw6 hbz)
            have hlt1 := hB4.lt
            have hlt2 := hC4.lt
            have hz45 : w5.heap.size = w4.heap.size + 1 := by rw [hw5]; simp
            have hbzn : bz ≠ bb ∧ bz ≠ bb + 1 ∧ bz ≠ bn := by omega
            have HB4s := Lib.hid (show w.heap.size ≤ w5.heap.size by have := hW4.size; omega)
            have HXl := Lib.hid (And.intro (hxb.fr hf5 (fun _ _ h => h)) (hrb.fr hf5 (fun _ _ h => h)))
            clear hw5 hw6 hf5 hf6 hN5 hZ6 hbn hbz hxb hrb hB4 hC4 hW4 hf46 hN6 HB4 hlt1 hlt2 hz45
            go_upto_region 15 with (fail)
            rw [← HW5.out.1, ← HW5.out.2]
            clear n0 n1 n2 n3 n4 n5 n6 n7 r5
            go_upto_region 16 with (fail)
            rw [← HW6.out.1, ← HW6.out.2]
            obtain ⟨hxb, hrb, hB6, hC6, hW6, hN6, hZ6⟩ := H6.out
            have n2 := hN6.cell 2 rfl
            by_cases hs0 : 0 < V.s
            · have hbk : backV X = [V] := by unfold backV; rw [← HVE.out, if_pos hs0]
              obtain ⟨b0, off, sv2, hya, -, hva, -⟩ := HV.out.1 0 V (by rw [hbk]; rfl)
              subst hya
              have hsbw := hva.by_
              obtain ⟨sa, sc, rfl⟩ : ∃ A c, sv2 = .slice A V.v.length c := by obtain ⟨A, c, h, -⟩ := hsbw; exact ⟨A, c, h⟩
              have v0 := hW6.cell hva.c0 (fun h => h)
              have v1 := hW6.cell hva.c1 (fun h => h)
              have v2 := hW6.cell hva.c2 (fun h => h)
              have v3 := hW6.cell hva.c3 (fun h => h)
              simp only [Nat.zero_mul, Nat.add_zero] at v0 v1 v2 v3
              rw [hbk] at n2
              have n2 : w6.cell? ⟨bn, 2, none⟩ = some (.slice (some ⟨b0, off, none⟩) 1 yc) := n2
              have z0 := hZ6.cell 0 rfl
              have z1 := hZ6.cell 1 rfl
              have z2 := hZ6.cell 2 rfl
              have z3 := hZ6.cell 3 rfl
              have zf := hZ6.frozen
              obtain ⟨w7, hw7⟩ : ∃ w7, w7 = (((w6.setCell ⟨bz, 0, none⟩ (.int .u64 V.s)).setCell ⟨bz, 1, none⟩ (.int .u64 V.n)).setCell ⟨bz, 2, none⟩ (.int .i64 V.d)).setCell ⟨bz, 3, none⟩ (.slice sa V.v.length sc) := ⟨_, rfl⟩
              have hf7 : Fr (fun k => k = bz) w6 w7 := by rw [hw7]; exact (((Fr.set1 w6 bz 0 _).setCell (p := ⟨bz, 1, none⟩) (fun _ => rfl) _).setCell (p := ⟨bz, 2, none⟩) (fun _ => rfl) _).setCell (p := ⟨bz, 3, none⟩) (fun _ => rfl) _
              have hZ7 := (((hZ6.set_ 0 (.int .u64 V.s)).set_ 1 (.int .u64 V.n)).set_ 2 (.int .i64 V.d)).set_ 3 (.slice sa V.v.length sc)
              rw [← hw7] at hZ7
              have hzw : w.heap.size ≤ bz := by have h1 := HW6.out.2; have h2 := HB4s.out; omega
              have hB7 := hB6.fr hf7 (fun e => hbzn.1 e.symm)
              have hC7 := hC6.fr hf7 (fun e => hbzn.2.1 e.symm)
              have hN7 := hN6.fr hf7 (fun e => hbzn.2.2 e.symm)
              have hltx : ∀ kk, (Value.slice xa V.v.length xc).ownBlock = some kk → V.v ≠ [] → kk ≠ bz := fun kk hk hn e => by
                obtain ⟨k2, hk2, hlt2⟩ := HXl.out.1.lt hn
                rw [hk2] at hk
                injection hk with hk
                have := HW6.out.2
                omega
              have hltr : ∀ kk, (Value.slice ra (LU.getD []).length rc).ownBlock = some kk → (LU.getD []) ≠ [] → kk ≠ bz := fun kk hk hn e => by
                obtain ⟨k2, hk2, hlt2⟩ := HXl.out.2.lt hn
                rw [hk2] at hk
                injection hk with hk
                have := HW6.out.2
                omega
              have hxb7 := hxb.fr' hf7 hltx
              have hrb7 := hrb.fr' hf7 hltr
              have hW7 : Fr (fun _ => False) w w7 := hW6.trans hf7 (fun kk hkk hx => hx.elim id (fun e => by omega))
              have hsb7 := hsbw.fr hW7 (fun _ _ h => h)
              have hle7 := HV.out.2.2.2.fr hW7 (fun _ _ h => h)
              have HW7 := Lib.hid hw7
              clear hva hsbw hw7 hf7 hzw hltx hltr hxb hrb hB6 hC6 hW6 hN6 hZ6 hbk
              go_upto_region 18 with (fail)
              rw [← HW7.out]
              clear v0 v1 v2 v3 z0 z1 z2 z3 zf n2 HW7
              have hvm := vtm_of HV.out.2.2.1
              have d0 := hB7.cell 0 rfl
              have d1 := hB7.cell 1 rfl
              have c0 := hC7.cell 0 rfl
              have c1 := hC7.cell 1 rfl
              have c2 := hC7.cell 2 rfl
              have c3 := hC7.cell 3 rfl
              have n0 := hN7.cell 0 rfl
              have n1 := hN7.cell 1 rfl
              have n6 := hN7.cell 6 rfl
              have n7 := hN7.cell 7 rfl
              have hVa : (Obj.cells #[.int .u64 V.s, .int .u64 V.n, .int .i64 V.d, .slice xa V.v.length xc] 46) = (Obj.cells #[.int .u64 V.s, .int .u64 V.n, .int .i64 V.d, .slice xa V.v.length xc] 46) := rfl
              obtain ⟨w8, hw8⟩ : ∃ w8, w8 = w7.alloc (.cells #[.int .u64 V.s, .int .u64 V.n, .int .i64 V.d, .slice xa V.v.length xc] 46) := ⟨_, rfl⟩
              obtain ⟨w9, hw9⟩ : ∃ w9, w9 = w8.alloc (.cells #[.int .u64 V.s, .int .u64 V.n, .int .i64 V.d, .slice sa V.v.length sc] 46) := ⟨_, rfl⟩
              have hf8 : Fr (fun _ => False) w7 w8 := by rw [hw8]; exact (Fr.refl _ w7).alloc _
              have hf9 : Fr (fun _ => False) w8 w9 := by rw [hw9]; exact (Fr.refl _ w8).alloc _
              have hz8 : w8.heap.size = w7.heap.size + 1 := by rw [hw8]; simp
              have hA8 : Blk w8 w7.heap.size 46 #[.int .u64 V.s, .int .u64 V.n, .int .i64 V.d, .slice xa V.v.length xc] := by rw [hw8]; exact Blk.new _ _ _
              have hA9 : Blk w9 w8.heap.size 46 #[.int .u64 V.s, .int .u64 V.n, .int .i64 V.d, .slice sa V.v.length sc] := by rw [hw9]; exact Blk.new _ _ _
              have hL1 : VtL w9 (.slice (some ⟨w7.heap.size, 0, none⟩) 1 1) [V] (fun _ => False) := vtl_one (hA8.fr hf9 (fun h => h)) (hxb7.fr (hf8.tr hf9) (fun _ _ h => h)) (fun h => h) (fun _ _ _ h => h) hvm.2.2.2.2 hvm.1 hvm.2.1 hvm.2.2.1 hvm.2.2.2.1 1
              have hL2 : VtL w9 (.slice (some ⟨w8.heap.size, 0, none⟩) 1 1) [V] (fun _ => False) := vtl_one hA9 (hsb7.fr (hf8.tr hf9) (fun _ _ h => h)) (fun h => h) (fun _ _ _ h => h) hvm.2.2.2.2 hvm.1 hvm.2.1 hvm.2.2.1 hvm.2.2.2.1 1
              have y0 : w7.cell? ⟨bz, 0, none⟩ = some (.int .u64 V.s) := hZ7.cell 0 rfl
              have y1 : w7.cell? ⟨bz, 1, none⟩ = some (.int .u64 V.n) := hZ7.cell 1 rfl
              have y2 : w7.cell? ⟨bz, 2, none⟩ = some (.int .i64 V.d) := hZ7.cell 2 rfl
              have y3 : w7.cell? ⟨bz, 3, none⟩ = some (.slice sa V.v.length sc) := hZ7.cell 3 rfl
              replace y0 := al_cell y0 (.cells #[.int .u64 V.s, .int .u64 V.n, .int .i64 V.d, .slice xa V.v.length xc] 46)
              replace y1 := al_cell y1 (.cells #[.int .u64 V.s, .int .u64 V.n, .int .i64 V.d, .slice xa V.v.length xc] 46)
              replace y2 := al_cell y2 (.cells #[.int .u64 V.s, .int .u64 V.n, .int .i64 V.d, .slice xa V.v.length xc] 46)
              replace y3 := al_cell y3 (.cells #[.int .u64 V.s, .int .u64 V.n, .int .i64 V.d, .slice xa V.v.length xc] 46)
              have hfin := (hW7.tr hf8).tr hf9
              have HFin := Lib.hid hfin
              have HLL := Lib.hid (And.intro hL1 hL2)
              have H89 := Lib.hid (And.intro hw8 hw9)
              have HZ8 := Lib.hid hz8
              have HRb := Lib.hid hrb7
              have HLe := Lib.hid hle7
              clear hw8 hw9 hz8 hf8 hf9 hA8 hA9 hL1 hL2 hfin hVa hvm hB7 hC7 hZ7 hW7 hxb7 hsb7 hrb7 hle7
              obtain ⟨kn, hkn⟩ : ∃ b, b = X.kn := ⟨_, rfl⟩
              have HLU2 := Lib.hid HLU.out
              rw [← hkn] at HLU2
              clear HLU
              have n7' : w7.cell? ⟨bn, 7, none⟩ = some (.bool kn) := by rw [hkn]; exact n7
              clear n7 hkn hN7
              cases kn with
              | true =>
                have hLU : LU = some X.ln := by rw [← HLU2.out, if_pos rfl]
                subst hLU
                clear HLU2
                simp only [Option.getD_some, Option.isSome_some] at HRb ⊢
                go_wp2_with fail
                refine (same_any _ _ X.ln X.ln w7 HRb.out HLe.out).mono ?_
                rintro e w10 ⟨rfl, rfl⟩
                rw [decide_eq_true rfl]
                go_wp2_with fail
                rw [← H89.out.1, ← HZ8.out, ← H89.out.2]
                clear H89 HZ8 d0 d1 c0 c1 c2 c3 n0 n1 n6 n7' y0 y1 y2 y3
                refine (rsame_any _ _ [V] [V] _ _ w9 HLL.out.1 HLL.out.2).mono ?_
                rintro e w10 ⟨bq, rfl, hbq, hf10⟩
                obtain rfl : bq = true := hbq.2 rfl
                have HF10 := Lib.hid (HFin.out.tr hf10)
                clear hbq hf10
                go_wp2_with fail
                go_roundg (st.N - (k + 1))
                case measure => have := HK.out; omega
                case rel => exact ⟨k + 1, by have := HK.out; omega, by go_num, HF10.out⟩
              | false =>
                have hLU : LU = none := by rw [← HLU2.out]; rfl
                subst hLU
                clear HLU2
                simp only [Option.getD_none, Option.isSome_none, List.length_nil] at HRb ⊢
                go_wp2_with fail
                rw [← H89.out.1, ← HZ8.out, ← H89.out.2]
                clear H89 HZ8 d0 d1 c0 c1 c2 c3 n0 n1 n6 n7' y0 y1 y2 y3
                refine (rsame_any _ _ [V] [V] _ _ w9 HLL.out.1 HLL.out.2).mono ?_
                rintro e w10 ⟨bq, rfl, hbq, hf10⟩
                obtain rfl : bq = true := hbq.2 rfl
                have HF10 := Lib.hid (HFin.out.tr hf10)
                clear hbq hf10
                go_wp2_with fail
                go_roundg (st.N - (k + 1))
                case measure => have := HK.out; omega
                case rel => exact ⟨k + 1, by have := HK.out; omega, by go_num, HF10.out⟩
            · have hs00 : V.s = 0 := by omega
              have hbk : backV X = [] := by unfold backV; rw [← HVE.out, if_neg hs0]
              rw [hbk] at n2
              have n2 : w6.cell? ⟨bn, 2, none⟩ = some (.slice ya 0 yc) := n2
              have hVz : V = zeroV := HV.out.2.1 hs00
              obtain ⟨w7, hw7⟩ : ∃ w7, w7 = w6 := ⟨_, rfl⟩
              obtain ⟨sa, hsa⟩ : ∃ sa : Option Addr, sa = none := ⟨_, rfl⟩
              obtain ⟨sc, hsc⟩ : ∃ sc : Nat, sc = 0 := ⟨_, rfl⟩
              have hZ7 : Blk w7 bz 46 #[.int .u64 V.s, .int .u64 V.n, .int .i64 V.d, .slice sa V.v.length sc] := by rw [hw7, hsa, hsc, hVz]; exact hZ6
              have hf7 : Fr (fun _ => False) w6 w7 := by rw [hw7]; exact Fr.refl _ _
              have hB7 := hB6.fr hf7 (fun h => h)
              have hC7 := hC6.fr hf7 (fun h => h)
              have hN7 := hN6.fr hf7 (fun h => h)
              have hxb7 := hxb.fr hf7 (fun _ _ h => h)
              have hrb7 := hrb.fr hf7 (fun _ _ h => h)
              have hW7 := hW6.tr hf7
              have hsb7 : Byt w7 (.slice sa V.v.length sc) V.v := by rw [hsa, hsc, hVz]; exact byt_nil _
              have hle7 := HV.out.2.2.2.fr hW7 (fun _ _ h => h)
              have HW7 := Lib.hid hw7
              clear hw7 hf7 hsa hsc hxb hrb hB6 hC6 hW6 hN6 hZ6 hbk hVz hs00
              go_upto_region 18 with (fail)
              rw [← HW7.out]
              clear n2 HW7
              have hvm := vtm_of HV.out.2.2.1
              have d0 := hB7.cell 0 rfl
              have d1 := hB7.cell 1 rfl
              have c0 := hC7.cell 0 rfl
              have c1 := hC7.cell 1 rfl
              have c2 := hC7.cell 2 rfl
              have c3 := hC7.cell 3 rfl
              have n0 := hN7.cell 0 rfl
              have n1 := hN7.cell 1 rfl
              have n6 := hN7.cell 6 rfl
              have n7 := hN7.cell 7 rfl
              have hVa : (Obj.cells #[.int .u64 V.s, .int .u64 V.n, .int .i64 V.d, .slice xa V.v.length xc] 46) = (Obj.cells #[.int .u64 V.s, .int .u64 V.n, .int .i64 V.d, .slice xa V.v.length xc] 46) := rfl
              obtain ⟨w8, hw8⟩ : ∃ w8, w8 = w7.alloc (.cells #[.int .u64 V.s, .int .u64 V.n, .int .i64 V.d, .slice xa V.v.length xc] 46) := ⟨_, rfl⟩
              obtain ⟨w9, hw9⟩ : ∃ w9, w9 = w8.alloc (.cells #[.int .u64 V.s, .int .u64 V.n, .int .i64 V.d, .slice sa V.v.length sc] 46) := ⟨_, rfl⟩
              have hf8 : Fr (fun _ => False) w7 w8 := by rw [hw8]; exact (Fr.refl _ w7).alloc _
              have hf9 : Fr (fun _ => False) w8 w9 := by rw [hw9]; exact (Fr.refl _ w8).alloc _
              have hz8 : w8.heap.size = w7.heap.size + 1 := by rw [hw8]; simp
              have hA8 : Blk w8 w7.heap.size 46 #[.int .u64 V.s, .int .u64 V.n, .int .i64 V.d, .slice xa V.v.length xc] := by rw [hw8]; exact Blk.new _ _ _
              have hA9 : Blk w9 w8.heap.size 46 #[.int .u64 V.s, .int .u64 V.n, .int .i64 V.d, .slice sa V.v.length sc] := by rw [hw9]; exact Blk.new _ _ _
              have hL1 : VtL w9 (.slice (some ⟨w7.heap.size, 0, none⟩) 1 1) [V] (fun _ => False) := vtl_one (hA8.fr hf9 (fun h => h)) (hxb7.fr (hf8.tr hf9) (fun _ _ h => h)) (fun h => h) (fun _ _ _ h => h) hvm.2.2.2.2 hvm.1 hvm.2.1 hvm.2.2.1 hvm.2.2.2.1 1
              have hL2 : VtL w9 (.slice (some ⟨w8.heap.size, 0, none⟩) 1 1) [V] (fun _ => False) := vtl_one hA9 (hsb7.fr (hf8.tr hf9) (fun _ _ h => h)) (fun h => h) (fun _ _ _ h => h) hvm.2.2.2.2 hvm.1 hvm.2.1 hvm.2.2.1 hvm.2.2.2.1 1
              have y0 : w7.cell? ⟨bz, 0, none⟩ = some (.int .u64 V.s) := hZ7.cell 0 rfl
              have y1 : w7.cell? ⟨bz, 1, none⟩ = some (.int .u64 V.n) := hZ7.cell 1 rfl
              have y2 : w7.cell? ⟨bz, 2, none⟩ = some (.int .i64 V.d) := hZ7.cell 2 rfl
              have y3 : w7.cell? ⟨bz, 3, none⟩ = some (.slice sa V.v.length sc) := hZ7.cell 3 rfl
              replace y0 := al_cell y0 (.cells #[.int .u64 V.s, .int .u64 V.n, .int .i64 V.d, .slice xa V.v.length xc] 46)
              replace y1 := al_cell y1 (.cells #[.int .u64 V.s, .int .u64 V.n, .int .i64 V.d, .slice xa V.v.length xc] 46)
              replace y2 := al_cell y2 (.cells #[.int .u64 V.s, .int .u64 V.n, .int .i64 V.d, .slice xa V.v.length xc] 46)
              replace y3 := al_cell y3 (.cells #[.int .u64 V.s, .int .u64 V.n, .int .i64 V.d, .slice xa V.v.length xc] 46)
              have hfin := (hW7.tr hf8).tr hf9
              have HFin := Lib.hid hfin
              have HLL := Lib.hid (And.intro hL1 hL2)
              have H89 := Lib.hid (And.intro hw8 hw9)
              have HZ8 := Lib.hid hz8
              have HRb := Lib.hid hrb7
              have HLe := Lib.hid hle7
              clear hw8 hw9 hz8 hf8 hf9 hA8 hA9 hL1 hL2 hfin hVa hvm hB7 hC7 hZ7 hW7 hxb7 hsb7 hrb7 hle7
              obtain ⟨kn, hkn⟩ : ∃ b, b = X.kn := ⟨_, rfl⟩
              have HLU2 := Lib.hid HLU.out
              rw [← hkn] at HLU2
              clear HLU
              have n7' : w7.cell? ⟨bn, 7, none⟩ = some (.bool kn) := by rw [hkn]; exact n7
              clear n7 hkn hN7
              cases kn with
              | true =>
                have hLU : LU = some X.ln := by rw [← HLU2.out, if_pos rfl]
                subst hLU
                clear HLU2
                simp only [Option.getD_some, Option.isSome_some] at HRb ⊢
                go_wp2_with fail
                refine (same_any _ _ X.ln X.ln w7 HRb.out HLe.out).mono ?_
                rintro e w10 ⟨rfl, rfl⟩
                rw [decide_eq_true rfl]
                go_wp2_with fail
                rw [← H89.out.1, ← HZ8.out, ← H89.out.2]
                clear H89 HZ8 d0 d1 c0 c1 c2 c3 n0 n1 n6 n7' y0 y1 y2 y3
                refine (rsame_any _ _ [V] [V] _ _ w9 HLL.out.1 HLL.out.2).mono ?_
                rintro e w10 ⟨bq, rfl, hbq, hf10⟩
                obtain rfl : bq = true := hbq.2 rfl
                have HF10 := Lib.hid (HFin.out.tr hf10)
                clear hbq hf10
                go_wp2_with fail
                go_roundg (st.N - (k + 1))
                case measure => have := HK.out; omega
                case rel => exact ⟨k + 1, by have := HK.out; omega, by go_num, HF10.out⟩
              | false =>
                have hLU : LU = none := by rw [← HLU2.out]; rfl
                subst hLU
                clear HLU2
                simp only [Option.getD_none, Option.isSome_none, List.length_nil] at HRb ⊢
                go_wp2_with fail
                rw [← H89.out.1, ← HZ8.out, ← H89.out.2]
                clear H89 HZ8 d0 d1 c0 c1 c2 c3 n0 n1 n6 n7' y0 y1 y2 y3
                refine (rsame_any _ _ [V] [V] _ _ w9 HLL.out.1 HLL.out.2).mono ?_
                rintro e w10 ⟨bq, rfl, hbq, hf10⟩
                obtain rfl : bq = true := hbq.2 rfl
                have HF10 := Lib.hid (HFin.out.tr hf10)
                clear hbq hf10
                go_wp2_with fail
                go_roundg (st.N - (k + 1))
                case measure => have := HK.out; omega
                case rel => exact ⟨k + 1, by have := HK.out; omega, by go_num, HF10.out⟩
          · have hke : k = st.N := by omega
            subst hke
            clear HK
            go_wp2_with fail
            go_ret
            exact ⟨rfl, HR.out⟩
end Go.Proofs.Ytkpfgoalohbfeaa
