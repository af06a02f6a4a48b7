/- accept, accepted. -/
import Derived.Test.YtkpfgoalohbfeaaSF
namespace Go.Proofs.Ytkpfgoalohbfeaa
open Go.RowKit

set_option maxRecDepth 100000 in
set_option maxHeartbeats 16000000 in
theorem acpt_any (r nb : Nat) (st : Sy) (c : Nat) (G F X : Nat → Prop) (m : Lt) (v : Value) (w : World) (h : Rm w r nb st c G F) (hm : LWf st.N m) (hvm : VtL w v m.vs X) (hX : ∀ k, G k → X k) (hne : m.vs ≠ []) :
    Calls Try.prog 41 #[.pointer (some ⟨nb, m.dst * 13, none⟩), .pointer (some ⟨r, 0, none⟩), mailV m v] w (VoidTo w r nb (acptS st m) c G F) := by
  obtain ⟨sv, lv, cs, nv, mv, Gp, h⟩ := h
  have hi := hm.dst
  have hR := h.ndr hi
  have hvl := hvm
  obtain ⟨⟨A, vc, rfl, -⟩, -⟩ := hvl
  obtain ⟨w1, hw1⟩ : ∃ w1, w1 = w.alloc (.cells #[.int .i64 m.k, .int .i64 (m.fr : Int), .int .i64 (m.dst : Int), .int .u64 (m.n : Int), .int .i64 m.d, .slice A m.vs.length vc] 68) := ⟨_, rfl⟩
  have hf1 : Fr (fun _ => False) w w1 := by rw [hw1]; exact (Fr.refl _ w).alloc _
  have hM1 : Blk w1 w.heap.size 68 #[.int .i64 m.k, .int .i64 (m.fr : Int), .int .i64 (m.dst : Int), .int .u64 (m.n : Int), .int .i64 m.d, .slice A m.vs.length vc] := by rw [hw1]; exact Blk.new _ _ _
  obtain ⟨bm, hbm⟩ : ∃ b, b = w.heap.size := ⟨_, rfl⟩
  rw [← hbm] at hM1
  have h1 := h.fr hf1 (fun _ _ h => h)
  have HW1 := Lib.hid (And.intro hw1 hbm)
  obtain ⟨S', hS⟩ : ∃ S', S' = acptS st m := ⟨_, rfl⟩
  rw [← hS]
  have HS := Lib.hid hS
  have HH := Lib.hid (And.intro h (And.intro hm (And.intro hf1 (And.intro hvm (And.intro hX hne)))))
  simp only [mailV]
  clear hw1 hbm hS h hvm hX hne
  go_enter Try.func41, Try.ntmps41
  go_upto_region 1 with (fail)
  rw [← HW1.out.1, ← HW1.out.2]
  clear hf1
  have m3 := hM1.cell 3 rfl
  have m4 := hM1.cell 4 rfl
  have hn6 : cs[m.dst * 13 + 6]? = some (.int .u64 ((st.nd m.dst).seen : Int)) := hR.gets 6 _ rfl
  go_wp2_with fail
  refine (sees_any nb (m.dst * 13) (st.nd m.dst).seen m.n m.d cs w1 h1.nblk hn6).mono ?_
  rintro e w2 ⟨rfl, hB2, hf2⟩
  have hR2 := hR.set_ hi (j0 := 6) (by omega) (.int .u64 ((max (st.nd m.dst).seen m.n : Nat) : Int))
  have hbmn : bm ≠ nb := hM1.ne_ h1.nblk (by decide)
  have hM2 := hM1.fr hf2 hbmn
  have hf12 : Fr (fun k => k = nb) w w2 := HH.out.2.2.1.none_up.tr hf2
  clear m3 m4 hn6 hM1 h1 hR hf2
  have m3 := hM2.cell 3 rfl
  have m4 := hM2.cell 4 rfl
  have n0 : w2.cell? ⟨nb, m.dst * 13, none⟩ = some (.int .u64 ((st.nd m.dst).pn : Int)) := hR2.cell hB2 (j := 0) rfl
  have n1 : w2.cell? ⟨nb, m.dst * 13 + 1, none⟩ = some (.int .i64 (st.nd m.dst).pd) := hR2.cell hB2 (j := 1) rfl
  have hd2 := (Fr.refl (fun _ => False) w2).drew
  go_upto_region 2 with (fail)
  first
    | go_region_held3 (fun wx => wx.cell? ⟨bm, 3, none⟩ = some (.int .u64 (m.n : Int)) ∧ wx.cell? ⟨bm, 4, none⟩ = some (.int .i64 m.d) ∧ wx.cell? ⟨nb, m.dst * 13, none⟩ = some (.int .u64 ((st.nd m.dst).pn : Int)) ∧ wx.cell? ⟨nb, m.dst * 13 + 1, none⟩ = some (.int .i64 (st.nd m.dst).pd)) (first | exact ⟨m3, m4, n0, n1⟩ | exact hS4)
      ((go_at_call 58
        refine (less_any m.n m.d (st.nd m.dst).pn (st.nd m.dst).pd _).mono ?_
        rintro e w3 ⟨rfl, hf3⟩
        have hd3 := hd2.tr hf3
        have hS4 := And.intro (hd3.cell m3 (fun h => h)) (And.intro (hd3.cell m4 (fun h => h)) (And.intro (hd3.cell n0 (fun h => h)) (hd3.cell n1 (fun h => h))))))
    | fail
  all_goals
    have hB3 := hB2.fr hd3 (fun h => h)
    have hM3 := hM2.fr hd3 (fun h => h)
    have hf13 : Fr (fun k => k = nb) w w3 := hf12.tr hd3.none_up
    clear m3 m4 n0 n1 hB2 hM2 hf12 hd2 hd3 hf3 hS4
    cases hlb : lessB m.n m.d (st.nd m.dst).pn (st.nd m.dst).pd with
    | true =>
      have HL := Lib.hid hlb
      clear hlb
      go_wp2_with fail
      obtain ⟨h, hm, hf1, -⟩ := HH.out
      have hst : S' = st.upd m.dst (seesN (st.nd m.dst) m) := by rw [HS.out]; unfold acptS; rw [if_pos HL.out]
      refine bodyPost_ret (results_none rfl _ _ _) rfl ⟨rfl, ?_⟩
      rw [hst]
      have hput := h.putS hi (x' := seesN (st.nd m.dst) m) hf13 hB3 hR2 rfl rfl rfl rfl ((h.wf.nd m.dst hi).sees hm)
      exact ⟨_, _, hput, Nx.or (fun k hk => h.Gg m.dst k hi hk), Nx.refl _ _ _, hf13.mono (fun k _ e => e ▸ h.Gn)⟩
    | false =>
      have HL := Lib.hid hlb
      clear hlb
      have m3 := hM3.cell 3 rfl
      have m4 := hM3.cell 4 rfl
      have n0 : w3.cell? ⟨nb, m.dst * 13, none⟩ = some (.int .u64 ((st.nd m.dst).pn : Int)) := hR2.cell hB3 (j := 0) rfl
      have n1 : w3.cell? ⟨nb, m.dst * 13 + 1, none⟩ = some (.int .i64 (st.nd m.dst).pd) := hR2.cell hB3 (j := 1) rfl
      have nf := hB3.frozen
      go_upto_region 4 with (fail)
      obtain ⟨w4, hw4⟩ : ∃ w4, w4 = (w3.setCell ⟨nb, m.dst * 13, none⟩ (.int .u64 (m.n : Int))).setCell ⟨nb, m.dst * 13 + 1, none⟩ (.int .i64 m.d) := ⟨_, rfl⟩
      rw [← hw4]
      have hB4 := (hB3.set_ (m.dst * 13 + 0) (.int .u64 (m.n : Int))).set_ (m.dst * 13 + 1) (.int .i64 m.d)
      have hR4 := (hR2.set_ hi (j0 := 0) (by omega) (.int .u64 (m.n : Int))).set_ hi (j0 := 1) (by omega) (.int .i64 m.d)
      simp only [Nat.add_zero] at hB4
      rw [← hw4] at hB4
      have hf4 : Fr (fun k => k = nb) w3 w4 := by rw [hw4]; exact (Fr.set1 _ _ _ _).setCell (p := ⟨nb, m.dst * 13 + 1, none⟩) (fun _ => rfl) _
      have hf14 := hf13.tr hf4
      have hM4 := hM3.fr hf4 hbmn
      have hlen : m.vs.length ≤ 1 := HH.out.2.1.len
      obtain ⟨p, hp⟩ : ∃ p, m.vs = [p] := by
        cases hv : m.vs with
        | nil => exact absurd hv HH.out.2.2.2.2.2
        | cons a l =>
          rw [hv] at hlen
          have : l = [] := by simpa using hlen
          exact ⟨a, by rw [this]⟩
      have HP := Lib.hid hp
      have hGn := HH.out.1.Gn
      have hv4 : VtL w4 (.slice A m.vs.length vc) m.vs X := HH.out.2.2.2.1.up hf14 (fun k e => HH.out.2.2.2.2.1 k (e ▸ hGn))
      have hb : ∀ p ∈ m.vs, p.v.length ≤ 1000 := fun p hp => by have := (HH.out.2.1.vs p hp).l; omega
      clear n0 n1 m3 m4 nf hB3 hM3 hw4 hf4 hf13 hR2 hp
      have m0 := hM4.cell 0 rfl
      have m1 := hM4.cell 1 rfl
      have m2 := hM4.cell 2 rfl
      have m3 := hM4.cell 3 rfl
      have m4 := hM4.cell 4 rfl
      have m5 := hM4.cell 5 rfl
      have HOwn := Lib.hid (own_any m _ X w4 hv4 (by omega) hb)
      clear hv4 hb
      go_wp2_with fail
      refine HOwn.out.mono ?_
      rintro e w5 ⟨va, vb, vs, rfl, hC5⟩
      simp only [mailV]
      have hB5 := hB4.fr hC5.fr (fun h => h)
      have hM5 := hM4.fr hC5.fr (fun h => h)
      obtain ⟨y, hy⟩ : ∃ y, vs = [y] := by
        have := hC5.len
        rw [HP.out] at this
        match vs, this with
        | [y], _ => exact ⟨y, rfl⟩
      have hrow := hC5.row
      have hval := hC5.val 0 p y (by rw [HP.out]; rfl) (by rw [hy]; rfl)
      obtain ⟨g, cap, rfl, hgw⟩ : ∃ g cap, va = some ⟨g, 0, none⟩ ∧ w4.heap.size ≤ g := by
        rcases own_form hrow with ⟨_, h0, _⟩ | ⟨g', cap', cur', h1, h2, _⟩
        · rw [HP.out] at h0; simp at h0
        · injection h1 with h1 _ _
          exact ⟨g', cap', h1, h2⟩
      rw [HP.out, hy] at hrow
      have hml1 : m.vs.length = 1 := by rw [HP.out]; rfl
      have p0 : w5.cell? ⟨g, 0, none⟩ = some (.int .u64 (p.s : Int)) := own_cell (own_base hrow) 0 rfl
      have p1 : w5.cell? ⟨g, 1, none⟩ = some (.int .u64 (p.n : Int)) := own_cell (own_base hrow) 1 rfl
      have p2 : w5.cell? ⟨g, 2, none⟩ = some (.int .i64 p.d) := own_cell (own_base hrow) 2 rfl
      have p3 : w5.cell? ⟨g, 3, none⟩ = some y := own_cell (own_base hrow) 3 rfl
      have n2 : w5.cell? ⟨nb, m.dst * 13 + 2, none⟩ = some (.int .u64 ((st.nd m.dst).vt.s : Int)) := hR4.cell hB5 (j := 2) rfl
      have n3 : w5.cell? ⟨nb, m.dst * 13 + 3, none⟩ = some (.int .u64 ((st.nd m.dst).vt.n : Int)) := hR4.cell hB5 (j := 3) rfl
      have n4 : w5.cell? ⟨nb, m.dst * 13 + 4, none⟩ = some (.int .i64 (st.nd m.dst).vt.d) := hR4.cell hB5 (j := 4) rfl
      have n5 : w5.cell? ⟨nb, m.dst * 13 + 5, none⟩ = some (nv m.dst).v := hR4.cell hB5 (j := 5) rfl
      have nf := hB5.frozen
      obtain ⟨ya, yc, rfl⟩ := own_sl5 hval
      have hzero : (0 : Int) < (m.vs.length : Int) := by rw [hml1]; decide
      have hfd : ∀ (w : World), (Instr.field 68 (.agg #[.int .i64 m.k, .int .i64 (m.fr : Int), .int .i64 (m.dst : Int), .int .u64 (m.n : Int), .int .i64 m.d, .slice (some ⟨g, 0, none⟩) 1 vb]) 4).run Try.prog w = .ok (.slice (some ⟨g, 0, none⟩) 1 vb) w := fun _ => by kernel_rfl
      have HV5 := Lib.hid (And.intro hval hC5)
      clear m0 m1 m2 m3 m4 m5 hval hrow hC5 hy hM4 hB4
      go_upto_region 5 with (fail)
      obtain ⟨w6, hw6⟩ : ∃ w6, w6 = (((w5.setCell ⟨nb, m.dst * 13 + 2, none⟩ (.int .u64 (p.s : Int))).setCell ⟨nb, m.dst * 13 + 3, none⟩ (.int .u64 (p.n : Int))).setCell ⟨nb, m.dst * 13 + 4, none⟩ (.int .i64 p.d)).setCell ⟨nb, m.dst * 13 + 5, none⟩ (.slice ya p.v.length yc) := ⟨_, rfl⟩
      rw [← hw6]
      have hB6 := (((hB5.set_ (m.dst * 13 + 2) (.int .u64 (p.s : Int))).set_ (m.dst * 13 + 3) (.int .u64 (p.n : Int))).set_ (m.dst * 13 + 4) (.int .i64 p.d)).set_ (m.dst * 13 + 5) (.slice ya p.v.length yc)
      have hR6 := (((hR4.set_ hi (j0 := 2) (by omega) (.int .u64 (p.s : Int))).set_ hi (j0 := 3) (by omega) (.int .u64 (p.n : Int))).set_ hi (j0 := 4) (by omega) (.int .i64 p.d)).set_ hi (j0 := 5) (by omega) (.slice ya p.v.length yc)
      have hf6 : Fr (fun k => k = nb) w5 w6 := by
        rw [hw6]
        exact (((Fr.set1 w5 nb _ _).setCell (p := ⟨nb, m.dst * 13 + 3, none⟩) (fun _ => rfl) _).setCell (p := ⟨nb, m.dst * 13 + 4, none⟩) (fun _ => rfl) _).setCell (p := ⟨nb, m.dst * 13 + 5, none⟩) (fun _ => rfl) _
      rw [← hw6] at hB6
      clear hfd hw6 n2 n3 n4 n5 nf p0 p1 p2 p3 hB5 hR4
      obtain ⟨hval, hC5⟩ := HV5.out
      have hf16 := (hf14.tr hC5.fr.none_up).tr hf6
      have hM6 := hM5.fr hf6 hbmn
      obtain ⟨h, hm, hf1, hvm, hX, hne⟩ := HH.out
      have hvt : m.vs.headD zeroV = p := by rw [HP.out]; rfl
      have hx' : voteN (st.nd m.dst) m = { st.nd m.dst with seen := max (st.nd m.dst).seen m.n, pn := m.n, pd := m.d, vt := p } := by unfold voteN; rw [hvt]
      have hYR : ∀ k, k = nb → Ro F G k := fun k e => .inr (e ▸ h.Gn)
      have hs4 := hf14.size
      have hs5 := hC5.fr.size
      have hs6 := hf6.size
      have hlt := h.lt
      have hXX : ∀ k, Ro (fun k => F k ∨ (w4.heap.size ≤ k ∧ k < w6.heap.size)) (fun k => G k ∨ Gp m.dst k) k → Ro F G k := fun k hk => by
        rcases hk with h1 | h1 | h1
        · exact .inl fun h2 => h1 (.inl h2)
        · exact .inr h1
        · exact .inr (h.Gg m.dst k hi h1)
      obtain ⟨q1, q2, q3⟩ := h.nval m.dst hi
      have hput := h.putN hi (x' := { st.nd m.dst with seen := max (st.nd m.dst).seen m.n, pn := m.n, pd := m.d, vt := p }) (y' := { nv m.dst with v := .slice ya p.v.length yc }) (Gi := Gp m.dst) (F' := fun k => F k ∨ (w4.heap.size ≤ k ∧ k < w6.heap.size)) (c' := c) hf16 (fun k hk => .inl hk) hB6 hR6 (fun k hk => .inl hk)
        ⟨Byt.of_own (own_fr hval hf6 (fun k hk e => by have := own_lt hval hk; have := (hval.lt k hk).1; have := hlt nb (h.GF nb h.Gn); omega)), fun k hk _ => by
          have h1 := hval.lt k hk
          refine ⟨.inr ⟨h1.1, by omega⟩, fun h2 => ?_⟩
          rcases h2 with h2 | h2
          · have := hlt k (h.GF k h2); omega
          · have := hlt k (h.GF k (h.Gg m.dst k hi h2)); omega⟩
        ((q2.fr hf16 hYR).up hXX) ((q3.fr hf16 hYR).up hXX)
        ((h.prop m.dst hi).fr hf16 (fun k hk e => (h.dr m.dst hi).2.1 (e ▸ hk))) (Nat.le_refl c) (by rw [← hx']; exact (h.wf.nd m.dst hi).vote hm) (fun k hk => .inl hk)
        (fun k hk => by rcases hk with hk | hk; have := hlt k hk; omega; omega)
      rw [← hx'] at hput
      have hst : S' = sendS (st.upd m.dst (voteN (st.nd m.dst) m)) ⟨4, m.dst, m.fr, m.n, m.d, []⟩ := by rw [HS.out]; unfold acptS; rw [if_neg (by rw [HL.out]; simp)]
      have hlm : LWf (st.upd m.dst (voteN (st.nd m.dst) m)).N ⟨4, m.dst, m.fr, m.n, m.d, []⟩ := ⟨hi, hm.fr, hm.n, hm.d0, hm.d1, by simp, fun v hv => by simp at hv, fun e => by simp at e⟩
      have hsd := send_any r nb _ c _ _ (fun _ => False) ⟨4, m.dst, m.fr, m.n, m.d, []⟩ _ w6 ⟨_, _, _, _, _, _, hput⟩ hlm (VtL.nil w6 _)
      have hfG : Fr G w w6 := hf16.mono (fun k _ e => e ▸ h.Gn)
      have HSd := Lib.hid (And.intro hsd (And.intro hst (And.intro hfG (And.intro (Nx.or (w := w) (w' := w6) (fun k hk => h.Gg m.dst k hi hk)) (show Nx F (fun k => F k ∨ (w4.heap.size ≤ k ∧ k < w6.heap.size)) w w6 from fun k hk => by rcases hk with hk | hk; exact .inl hk; exact .inr (by omega))))))
      have m1 := hM6.cell 1 rfl
      have m2 := hM6.cell 2 rfl
      have m3 := hM6.cell 3 rfl
      have m4 := hM6.cell 4 rfl
      clear hsd hst hfG hput hlm hval hC5 hf6 hf16 hM5 hM6 h hm hvm hX hne hYR hlt hXX q1 q2 q3 hvt hx' hB6 hR6
      go_wp2_with fail
      refine HSd.out.1.mono ?_
      rintro e w8 ⟨rfl, hT⟩
      have HT := Lib.hid hT
      clear hT m1 m2 m3 m4
      go_wp2_with fail
      refine bodyPost_end (results_none rfl _ _ _) rfl ⟨rfl, ?_⟩
      rw [HSd.out.2.1]
      exact HT.out.of HSd.out.2.2.1 HSd.out.2.2.2.1 HSd.out.2.2.2.2
end Go.Proofs.Ytkpfgoalohbfeaa
