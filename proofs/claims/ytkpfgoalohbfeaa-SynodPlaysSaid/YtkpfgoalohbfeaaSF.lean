/- Start, prepare, accept. -/
import Derived.Test.YtkpfgoalohbfeaaSE
import Derived.Deep.RegionHeld3
namespace Go.Proofs.Ytkpfgoalohbfeaa
open Go.RowKit

theorem row2 {w : World} {b : Nat} {T : TypeId} {a0 a1 : Value} (hB : Blk w b T #[a0, a1]) (x0 x1 : Value) :
    Blk ((w.setCell ⟨b, 0, none⟩ x0).setCell ⟨b, 1, none⟩ x1) b T #[x0, x1] ∧ Fr (fun k => k = b) w ((w.setCell ⟨b, 0, none⟩ x0).setCell ⟨b, 1, none⟩ x1) :=
  ⟨by simpa using (hB.set_ 0 x0).set_ 1 x1, (Fr.set1 w b 0 _).setCell (p := ⟨b, 1, none⟩) (fun _ => rfl) _⟩
section
variable {w w' w2 : World} {r nb c c' : Nat} {st st' : Sy} {G G' F F' X Y : Nat → Prop} {sv lv : Value} {cs cs' : Array Value} {nv : Nat → Nv} {mv : List Value} {Gp : Nat → Nat → Prop}
/-- A node's numbers turned. -/
theorem RmX.putS (h : RmX w r nb st c G F sv lv cs nv mv Gp) {i : Nat} (hi : i < st.N) {x' : Nd} (hf : Fr (fun k => k = nb) w w') (hB : Blk w' nb 80 cs') (hR : NdR cs' st.N i (ndC x' (nv i)) st.nd nv)
    (e1 : x'.vt.v = (st.nd i).vt.v) (e2 : x'.val = (st.nd i).val) (e3 : x'.ln = (st.nd i).ln) (e4 : x'.p = (st.nd i).p) (hwf : NWf st.q x') : Rm w' r nb (st.upd i x') c (fun k => G k ∨ Gp i k) F := by
  have hY : ∀ k, k = nb → Ro F G k := fun k hk => .inr (hk ▸ h.Gn)
  have hX : ∀ k, Ro F (fun k => G k ∨ Gp i k) k → Ro F G k := fun k hk => by
    rcases hk with h1 | h1 | h1
    · exact .inl h1
    · exact .inr h1
    · exact .inr (h.Gg i k hi h1)
  obtain ⟨n1, n2, n3⟩ := h.nval i hi
  refine ⟨_, _, _, _, _, _, h.putN hi hf (fun k hk => .inl hk) hB hR (Gi := Gp i) (fun k hk => .inl hk) ?_ ?_ ?_ ?_ (Nat.le_refl c) hwf (fun k hk => hk) (fun k hk => by have := h.lt k hk; have := hf.size; omega)⟩
  · rw [e1]; exact (n1.fr hf hY).up hX
  · rw [e2]; exact (n2.fr hf hY).up hX
  · rw [e3]; exact (n3.fr hf hY).up hX
  · rw [e4]; exact (h.prop i hi).fr hf (fun k hk e => (h.dr i hi).2.1 (e ▸ hk))
theorem RmTo.of (h : RmTo w2 r nb st' c' G' F' w') (hf : Fr G w w2) (hG : Nx G G' w w2) (hF : Nx F F' w w2) : RmTo w r nb st' c' G F w' := by
  obtain ⟨G3, F3, h1, h2, h3, h4⟩ := h
  have hs := hf.size
  have hs2 := h4.size
  exact ⟨G3, F3, h1, hG.tr h2 hs hs2, hF.tr h3 hs hs2, hf.trans h4 (fun k hk hx => hx.elim id (fun hg => (hG k hg).elim id (fun h => by omega)))⟩
theorem Nx.or {A : Nat → Prop} (hA : ∀ k, A k → G k) : Nx G (fun k => G k ∨ A k) w w' := fun k hk => .inl (hk.elim id (hA k))
theorem VtL.nil' (w : World) (c : Nat) (hc : c = 0) (X : Nat → Prop) : VtL w (.slice none 0 c) [] X := by subst hc; exact VtL.nil w X
end

/-- What prepare leaves. -/
def VoidTo (w : World) (r nb : Nat) (st' : Sy) (c' : Nat) (G F : Nat → Prop) (e : Ending) (w' : World) : Prop := e = .returned (.tuple #[]) ∧ RmTo w r nb st' c' G F w'

set_option maxRecDepth 100000 in
set_option maxHeartbeats 16000000 in
theorem prep_any (r nb : Nat) (st : Sy) (c : Nat) (G F : Nat → Prop) (m : Lt) (A : Option Addr) (vc : Nat) (w : World) (h : Rm w r nb st c G F) (hm : LWf st.N m) :
    Calls Try.prog 39 #[.pointer (some ⟨nb, m.dst * 13, none⟩), .pointer (some ⟨r, 0, none⟩), mailV m (.slice A m.vs.length vc)] w (VoidTo w r nb (prepS st m) c G F) := by
  obtain ⟨sv, lv, cs, nv, mv, Gp, h⟩ := h
  have hi := hm.dst
  have hR := h.ndr hi
  obtain ⟨w1, hw1⟩ : ∃ w1, w1 = w.alloc (.cells #[.int .i64 m.k, .int .i64 (m.fr : Int), .int .i64 (m.dst : Int), .int .u64 (m.n : Int), .int .i64 m.d, .slice A m.vs.length vc] 68) := ⟨_, rfl⟩
  have hf1 : Fr (fun _ => False) w w1 := by rw [hw1]; exact (Fr.refl _ w).alloc _
  have hM1 : Blk w1 w.heap.size 68 #[.int .i64 m.k, .int .i64 (m.fr : Int), .int .i64 (m.dst : Int), .int .u64 (m.n : Int), .int .i64 m.d, .slice A m.vs.length vc] := by rw [hw1]; exact Blk.new _ _ _
  obtain ⟨bm, hbm⟩ : ∃ b, b = w.heap.size := ⟨_, rfl⟩
  rw [← hbm] at hM1
  have h1 := h.fr hf1 (fun _ _ h => h)
  have HW1 := Lib.hid (And.intro hw1 hbm)
  obtain ⟨S', hS⟩ : ∃ S', S' = prepS st m := ⟨_, rfl⟩
  rw [← hS]
  have HS := Lib.hid hS
  have HH := Lib.hid (And.intro h (And.intro hm hf1))
  simp only [mailV]
  clear hw1 hbm hS h
  go_enter Try.func39, Try.ntmps39
  go_upto_region 1 with (fail)
  rw [← HW1.out.1, ← HW1.out.2]
  clear hf1
  have m3 := hM1.cell 3 rfl
  have m4 := hM1.cell 4 rfl
  have hn6 : cs[m.dst * 13 + 6]? = some (.int .u64 ((st.nd m.dst).seen : Int)) := hR.gets 6 _ rfl
  go_wp2_with fail
  refine (sees_any nb (m.dst * 13) (st.nd m.dst).seen m.n m.d cs w1 h1.nblk hn6).mono ?_
  rintro e w2 ⟨rfl, hB2, hf2⟩
  have hR2 := hR.set_ hi (j0 := 6) (by omega) (.int .u64 ((max (st.nd m.dst).seen m.n : Nat) : Int))
  have hbmn : bm ≠ nb := hM1.ne_ h1.nblk (by decide)
  have hM2 := hM1.fr hf2 hbmn
  have hf12 : Fr (fun k => k = nb) w w2 := HH.out.2.2.none_up.tr hf2
  clear m3 m4 hn6 hM1 h1 hR hf2
  have m3 := hM2.cell 3 rfl
  have m4 := hM2.cell 4 rfl
  have n0 : w2.cell? ⟨nb, m.dst * 13, none⟩ = some (.int .u64 ((st.nd m.dst).pn : Int)) := hR2.cell hB2 (j := 0) rfl
  have n1 : w2.cell? ⟨nb, m.dst * 13 + 1, none⟩ = some (.int .i64 (st.nd m.dst).pd) := hR2.cell hB2 (j := 1) rfl
  have hd2 := (Fr.refl (fun _ => False) w2).drew
  go_upto_region 2 with (fail)
  first
    | go_region_held3 (fun wx => wx.cell? ⟨bm, 3, none⟩ = some (.int .u64 (m.n : Int)) ∧ wx.cell? ⟨bm, 4, none⟩ = some (.int .i64 m.d) ∧ wx.cell? ⟨nb, m.dst * 13, none⟩ = some (.int .u64 ((st.nd m.dst).pn : Int)) ∧ wx.cell? ⟨nb, m.dst * 13 + 1, none⟩ = some (.int .i64 (st.nd m.dst).pd)) (first | exact ⟨m3, m4, n0, n1⟩ | exact hS4)
      ((go_at_call 58
        refine (less_any m.n m.d (st.nd m.dst).pn (st.nd m.dst).pd _).mono ?_
        rintro e w3 ⟨rfl, hf3⟩
        have hd3 := hd2.tr hf3
        have hS4 := And.intro (hd3.cell m3 (fun h => h)) (And.intro (hd3.cell m4 (fun h => h)) (And.intro (hd3.cell n0 (fun h => h)) (hd3.cell n1 (fun h => h))))))
    | fail
  all_goals
    have hB3 := hB2.fr hd3 (fun h => h)
    have hM3 := hM2.fr hd3 (fun h => h)
    have hf13 : Fr (fun k => k = nb) w w3 := hf12.tr hd3.none_up
    clear m3 m4 n0 n1 hB2 hM2 hf12 hd2 hd3 hf3 hS4
    cases hlb : lessB m.n m.d (st.nd m.dst).pn (st.nd m.dst).pd with
    | true =>
      have HL := Lib.hid hlb
      clear hlb
      go_wp2_with fail
      obtain ⟨h, hm, hf1⟩ := HH.out
      have hst : S' = st.upd m.dst (seesN (st.nd m.dst) m) := by rw [HS.out]; unfold prepS; rw [if_pos HL.out]
      refine bodyPost_ret (results_none rfl _ _ _) rfl ⟨rfl, ?_⟩
      rw [hst]
      have hput := h.putS hi (x' := seesN (st.nd m.dst) m) hf13 hB3 hR2 rfl rfl rfl rfl ((h.wf.nd m.dst hi).sees hm)
      exact ⟨_, _, hput, Nx.or (fun k hk => h.Gg m.dst k hi hk), Nx.refl _ _ _, hf13.mono (fun k _ e => e ▸ h.Gn)⟩
    | false =>
      have HL := Lib.hid hlb
      clear hlb
      have m3 := hM3.cell 3 rfl
      have m4 := hM3.cell 4 rfl
      have n0 : w3.cell? ⟨nb, m.dst * 13, none⟩ = some (.int .u64 ((st.nd m.dst).pn : Int)) := hR2.cell hB3 (j := 0) rfl
      have n1 : w3.cell? ⟨nb, m.dst * 13 + 1, none⟩ = some (.int .i64 (st.nd m.dst).pd) := hR2.cell hB3 (j := 1) rfl
      have nf := hB3.frozen
      go_upto_region 4 with (fail)
      obtain ⟨w4, hw4⟩ : ∃ w4, w4 = (w3.setCell ⟨nb, m.dst * 13, none⟩ (.int .u64 (m.n : Int))).setCell ⟨nb, m.dst * 13 + 1, none⟩ (.int .i64 m.d) := ⟨_, rfl⟩
      rw [← hw4]
      have hB4 := (hB3.set_ (m.dst * 13 + 0) (.int .u64 (m.n : Int))).set_ (m.dst * 13 + 1) (.int .i64 m.d)
      have hR4 := (hR2.set_ hi (j0 := 0) (by omega) (.int .u64 (m.n : Int))).set_ hi (j0 := 1) (by omega) (.int .i64 m.d)
      simp only [Nat.add_zero] at hB4
      rw [← hw4] at hB4
      have hf4 : Fr (fun k => k = nb) w3 w4 := by rw [hw4]; exact (Fr.set1 _ _ _ _).setCell (p := ⟨nb, m.dst * 13 + 1, none⟩) (fun _ => rfl) _
      have hf14 := hf13.tr hf4
      have hM4 := hM3.fr hf4 hbmn
      have hput := HH.out.1.putS hi (x' := bindN (st.nd m.dst) m) hf14 hB4 hR4 rfl rfl rfl rfl ((HH.out.1.wf.nd m.dst hi).bind HH.out.2.1)
      have hval := (HH.out.1.nval m.dst hi).1.fr hf14 (fun k hk => .inr (hk ▸ HH.out.1.Gn))
      have HP := Lib.hid (And.intro hput (And.intro hval hf14))
      have n2 : w4.cell? ⟨nb, m.dst * 13 + 2, none⟩ = some (.int .u64 ((st.nd m.dst).vt.s : Int)) := hR4.cell hB4 (j := 2) rfl
      have n3 : w4.cell? ⟨nb, m.dst * 13 + 3, none⟩ = some (.int .u64 ((st.nd m.dst).vt.n : Int)) := hR4.cell hB4 (j := 3) rfl
      have n4 : w4.cell? ⟨nb, m.dst * 13 + 4, none⟩ = some (.int .i64 (st.nd m.dst).vt.d) := hR4.cell hB4 (j := 4) rfl
      have n5 : w4.cell? ⟨nb, m.dst * 13 + 5, none⟩ = some (nv m.dst).v := hR4.cell hB4 (j := 5) rfl
      have HC := Lib.hid (And.intro n2 (And.intro n3 (And.intro n4 n5)))
      clear n0 n1 n2 n3 n4 n5 m3 m4 nf hB3 hM3 hw4 hf4 hf13 hf14 hput hval hB4 hR4 hR2
      have m1 := hM4.cell 1 rfl
      have m2 := hM4.cell 2 rfl
      have m3 := hM4.cell 3 rfl
      have m4 := hM4.cell 4 rfl
      obtain ⟨w5, hw5⟩ : ∃ w5, w5 = w4.alloc (.cells #[.int .i64 2, .int .i64 (m.dst : Int), .int .i64 (m.fr : Int), .int .u64 (m.n : Int), .int .i64 m.d, .slice none 0 0] 68) := ⟨_, rfl⟩
      obtain ⟨bk, hbk⟩ : ∃ b, b = w4.heap.size := ⟨_, rfl⟩
      have hf5 : Fr (fun _ => False) w4 w5 := by rw [hw5]; exact (Fr.refl _ w4).alloc _
      have hK5 : Blk w5 bk 68 #[.int .i64 2, .int .i64 (m.dst : Int), .int .i64 (m.fr : Int), .int .u64 (m.n : Int), .int .i64 m.d, .slice none 0 0] := by rw [hw5, hbk]; exact Blk.new _ _ _
      have n2 := hf5.cell HC.out.1 (fun h => h)
      have n3 := hf5.cell HC.out.2.1 (fun h => h)
      have n4 := hf5.cell HC.out.2.2.1 (fun h => h)
      have n5 := hf5.cell HC.out.2.2.2 (fun h => h)
      have HW5 := Lib.hid (And.intro hw5 (And.intro hbk hf5))
      clear hw5 hbk hM4 HC
      go_upto_region 5 with (fail)
      rw [← HW5.out.1, ← HW5.out.2.1]
      have hst : S' = sendS (st.upd m.dst (bindN (st.nd m.dst) m)) ⟨2, m.dst, m.fr, m.n, m.d, backV (st.nd m.dst)⟩ := by rw [HS.out]; unfold prepS; rw [if_neg (by rw [HL.out]; simp)]
      have HSt := Lib.hid hst
      clear hst m1 m2 m3 m4
      obtain ⟨sA, sC, hsl⟩ : ∃ sA sC, (nv m.dst).v = .slice sA (st.nd m.dst).vt.v.length sC := by
        obtain ⟨A', c', h1, _⟩ := HP.out.2.1.1
        exact ⟨A', c', h1⟩
      have HSl := Lib.hid hsl
      rw [hsl] at n5
      have hxwf := HH.out.1.wf.nd m.dst hi
      have hbw := backV_wf hxwf
      have HX := Lib.hid (And.intro hxwf hbw)
      clear hsl hxwf hbw
      by_cases hs0 : 0 < (st.nd m.dst).vt.s
      · have hs0' : (0 : Int) < ((st.nd m.dst).vt.s : Int) := by omega
        have hbv : backV (st.nd m.dst) = [(st.nd m.dst).vt] := by unfold backV; rw [if_pos hs0]
        have HBV := Lib.hid hbv
        clear hbv
        have k5 := hK5.cell 5 rfl
        have kf := hK5.frozen 5
        have hk5 := hK5.lt
        go_upto_region 7 with (fail)
        obtain ⟨b6, hb6⟩ : ∃ b, b = w5.heap.size := ⟨_, rfl⟩
        rw [← hb6]
        obtain ⟨w6, hw6⟩ : ∃ w6, w6 = w5.setCell ⟨bk, 5, none⟩ (.slice (some ⟨b6, 0, none⟩) 1 1) := ⟨_, rfl⟩
        obtain ⟨w7, hw7⟩ : ∃ w7, w7 = w6.alloc (.cells #[.int .u64 ((st.nd m.dst).vt.s : Int), .int .u64 ((st.nd m.dst).vt.n : Int), .int .i64 (st.nd m.dst).vt.d, .slice sA (st.nd m.dst).vt.v.length sC] 46) := ⟨_, rfl⟩
        rw [← hw6, ← hw7]
        have hb66 : b6 = w6.heap.size := by rw [hw6, hb6]; simp
        have hf6 : Fr (fun k => k = bk) w5 w6 := by rw [hw6]; exact Fr.set1 _ _ _ _
        have hf67 : Fr (fun _ => False) w6 w7 := by rw [hw7]; exact (Fr.refl _ w6).alloc _
        have hK7 : Blk w7 bk 68 #[.int .i64 2, .int .i64 (m.dst : Int), .int .i64 (m.fr : Int), .int .u64 (m.n : Int), .int .i64 m.d, .slice (some ⟨b6, 0, none⟩) 1 1] := by
          have hK6 : Blk w6 bk 68 #[.int .i64 2, .int .i64 (m.dst : Int), .int .i64 (m.fr : Int), .int .u64 (m.n : Int), .int .i64 m.d, .slice (some ⟨b6, 0, none⟩) 1 1] := by rw [hw6]; simpa using hK5.set_ 5 (.slice (some ⟨b6, 0, none⟩) 1 1)
          exact hK6.fr hf67 (fun h => h)
        have hV7 : Blk w7 b6 46 #[.int .u64 ((st.nd m.dst).vt.s : Int), .int .u64 ((st.nd m.dst).vt.n : Int), .int .i64 (st.nd m.dst).vt.d, .slice sA (st.nd m.dst).vt.v.length sC] := by rw [hw7, hb66]; exact Blk.new _ _ _
        have hf7 : Fr (fun k => k = bk) w5 w7 := hf6.tr hf67.none_up
        clear hw6 hw7 hb6 hb66 k5 kf n2 n3 n4 n5 hK5 hf6 hf67
        have k0 := hK7.cell 0 rfl
        have k1 := hK7.cell 1 rfl
        have k2 := hK7.cell 2 rfl
        have k3 := hK7.cell 3 rfl
        have k4 := hK7.cell 4 rfl
        have k5 := hK7.cell 5 rfl
        have hf47 : Fr (fun _ => False) w4 w7 := HW5.out.2.2.trans hf7 (fun k hk h => by rcases h with h | h; exact h; have := HW5.out.2.1; omega)
        have hR7 := HP.out.1.none_ hf47
        have hlm : LWf (st.upd m.dst (bindN (st.nd m.dst) m)).N ⟨2, m.dst, m.fr, m.n, m.d, backV (st.nd m.dst)⟩ := ⟨hi, HH.out.2.1.fr, HH.out.2.1.n, HH.out.2.1.d0, HH.out.2.1.d1, HX.out.2.2, HX.out.2.1, fun e => by simp at e⟩
        have hvt := HX.out.1.vt
        have hv7 : VtL w7 (.slice (some ⟨b6, 0, none⟩) 1 1) (backV (st.nd m.dst)) (fun _ => False) := by
          rw [HBV.out]
          have hby := HP.out.2.1.1
          rw [HSl.out] at hby
          refine vtl_one hV7 (hby.fr hf47 (fun _ _ h => h)) (fun h => h) (fun _ _ _ h => h) ?_ ?_ ?_ ?_ ?_ 1
          · have := hvt.l; unfold maxLen; omega
          · have := hvt.s; omega
          · have := hvt.n; unfold lastN at this; omega
          · have := hvt.d0; omega
          · have := hvt.d1; omega
        have hsd := send_any r nb _ c _ F (fun _ => False) ⟨2, m.dst, m.fr, m.n, m.d, backV (st.nd m.dst)⟩ _ w7 hR7 hlm hv7
        have HSd := Lib.hid hsd
        clear hsd hv7 hR7 hlm hvt hK7 hV7 hf7
        go_wp2_with fail
        refine HSd.out.mono ?_
        rintro e w8 ⟨rfl, hT⟩
        have HT := Lib.hid hT
        clear hT k0 k1 k2 k3 k4 k5
        go_wp2_with fail
        refine bodyPost_end (results_none rfl _ _ _) rfl ⟨rfl, ?_⟩
        rw [HSt.out]
        have hG := HH.out.1.Gn
        exact HT.out.of ((HP.out.2.2.mono (fun k _ e => e ▸ hG)).tr hf47.none_up) (Nx.or (fun k hk => HH.out.1.Gg m.dst k hi hk)) (Nx.refl _ _ _)
      · have hs0' : ¬ (0 : Int) < ((st.nd m.dst).vt.s : Int) := by omega
        have hbv : backV (st.nd m.dst) = [] := by unfold backV; rw [if_neg hs0]
        have HBV := Lib.hid hbv
        clear hbv
        have k0 := hK5.cell 0 rfl
        have k1 := hK5.cell 1 rfl
        have k2 := hK5.cell 2 rfl
        have k3 := hK5.cell 3 rfl
        have k4 := hK5.cell 4 rfl
        have k5 := hK5.cell 5 rfl
        have hR7 := HP.out.1.none_ HW5.out.2.2
        have hlm : LWf (st.upd m.dst (bindN (st.nd m.dst) m)).N ⟨2, m.dst, m.fr, m.n, m.d, backV (st.nd m.dst)⟩ := ⟨hi, HH.out.2.1.fr, HH.out.2.1.n, HH.out.2.1.d0, HH.out.2.1.d1, HX.out.2.2, HX.out.2.1, fun e => by simp at e⟩
        have hv7 : VtL w5 (.slice none 0 0) (backV (st.nd m.dst)) (fun _ => False) := by rw [HBV.out]; exact VtL.nil _ _
        have hsd := send_any r nb _ c _ F (fun _ => False) ⟨2, m.dst, m.fr, m.n, m.d, backV (st.nd m.dst)⟩ _ w5 hR7 hlm hv7
        have HSd := Lib.hid hsd
        clear hsd hv7 hR7 hlm hK5 n3 n4 n5
        go_wp2_with fail
        refine HSd.out.mono ?_
        rintro e w8 ⟨rfl, hT⟩
        have HT := Lib.hid hT
        clear hT k0 k1 k2 k3 k4 k5 n2
        go_wp2_with fail
        refine bodyPost_end (results_none rfl _ _ _) rfl ⟨rfl, ?_⟩
        rw [HSt.out]
        have hG := HH.out.1.Gn
        exact HT.out.of ((HP.out.2.2.mono (fun k _ e => e ▸ hG)).tr HW5.out.2.2.none_up) (Nx.or (fun k hk => HH.out.1.Gg m.dst k hi hk)) (Nx.refl _ _ _)
end Go.Proofs.Ytkpfgoalohbfeaa
