/- Start of the document's room. -/
import Derived.Test.YtkpfgoalohbfeaaSRI
namespace Go.Proofs.Ytkpfgoalohbfeaa
open Go.RowKit

/-! ### Start -/
def RStartPost (r nb : Nat) (st : Sy) (c : Nat) (G F : Nat → Prop) (a : Int) (v : List UInt8) (w : World) (e : Ending) (w' : World) : Prop :=
  e = .returned (.tuple #[.agg #[.int .u64 ((startB st a v).1 : Int), .int .i64 (startB st a v).2], .int .i64 (startE st a v)]) ∧ RfTo w r nb (startS st a v) c G F w'
theorem rstart_no {w w' : World} {r nb c : Nat} {st : Sy} {G F : Nat → Prop} {a : Int} {v : List UInt8} {E : Int} (h : Rf w r nb st c G F) (hE : startE st a v = E) (hn : ¬ E = 0) (hf : Fr (fun _ => False) w w') :
    RStartPost r nb st c G F a v w (.returned (.tuple #[.agg #[.int .u64 0, .int .i64 0], .int .i64 E])) w' := by
  have h0 : ¬ startE st a v = 0 := by rw [hE]; exact hn
  unfold RStartPost startB startS
  rw [if_neg h0, if_neg h0, hE]
  exact ⟨rfl, RfTo.refl h hf⟩
/-- The node has a new ballot, a new proposer, its value. -/
theorem RfX.started {w1 w2 w4 w5 w6 w7 : World} {r nb c z s1 : Nat} {st : Sy} {G F : Nat → Prop} {sv lv : Value} {cs : Array Value} {nv : Nat → Rv} {mv : List Value} {Gp : Nat → Nat → Prop} {i ri : Nat} {v : List UInt8} {va : Option Addr} {vc : Nat} (h : RfX w1 r nb st c G F sv lv cs nv mv Gp) (hi : i < st.N)
    (hs1 : s1 = (st.nd i).seen + 1) (h2 : w2 = w1.setCell ⟨nb, i * 8 + 3, none⟩ (.int .u64 (s1 : Int))) (hz : w2.heap.size ≤ z)
    (hP : RR w4 ri (rs0 st.q s1 (i : Int) 1) (fun k => z ≤ k ∧ k < w4.heap.size)) (hf4 : Fr (fun _ => False) w2 w4)
    (h5 : w5 = w4.setCell ⟨nb, i * 8 + 4, none⟩ (.pointer (some ⟨ri, 0, none⟩))) (hf6 : Fr (fun _ => False) w5 w6) (ho : w6.ownsRow w5.heap.size 5 1 (.slice va v.length vc) v.length (u8s v))
    (h7 : w7 = w6.setCell ⟨nb, i * 8 + 5, none⟩ (.slice va v.length vc)) (hz4 : z ≤ w4.heap.size) (hv : v.length ≤ 100) (hs : (st.nd i).seen < lastN) :
    ∃ G' F', Rf w7 r nb (st.upd i (startN st i v)) c G' F' ∧ Nx G G' w1 w7 ∧ Nx F F' w1 w7 ∧ Fr G w1 w7 ∧ (∀ k, F k → F' k) ∧ ∀ k, F' k → F k ∨ z ≤ k := by
  have hnbG := h.Gn
  have hnbF := h.GF nb hnbG
  have hlt := h.lt
  have hR := h.ndr hi
  have hx := h.wf.nd i hi
  have hN := h.wf.n12
  have b2 := h.nblk.set_ (i * 8 + 3) (.int .u64 (s1 : Int))
  rw [← h2] at b2
  have f2 : Fr (fun k => k = nb) w1 w2 := by rw [h2]; exact Fr.set1 _ _ _ _
  have b4 := b2.fr hf4 (fun h => h)
  have b5 := b4.set_ (i * 8 + 4) (.pointer (some ⟨ri, 0, none⟩))
  rw [← h5] at b5
  have f5 : Fr (fun k => k = nb) w4 w5 := by rw [h5]; exact Fr.set1 _ _ _ _
  have b6 := b5.fr hf6 (fun h => h)
  have b7 := b6.set_ (i * 8 + 5) (.slice va v.length vc)
  rw [← h7] at b7
  have f7 : Fr (fun k => k = nb) w6 w7 := by rw [h7]; exact Fr.set1 _ _ _ _
  have z2 : w2.heap.size = w1.heap.size := by rw [h2]; simp
  have z5 : w5.heap.size = w4.heap.size := by rw [h5]; simp
  have z7 : w7.heap.size = w6.heap.size := by rw [h7]; simp
  have s4 := hf4.size
  have s6 := hf6.size
  have hf : Fr (fun k => k = nb) w1 w7 := (((f2.tr hf4.none_up).tr f5).tr hf6.none_up).tr f7
  have R7 := ((hR.set_ hi (j0 := 3) (by omega) (.int .u64 (s1 : Int))).set_ hi (j0 := 4) (by omega) (.pointer (some ⟨ri, 0, none⟩))).set_ hi (j0 := 5) (by omega) (.slice va v.length vc)
  have hnb1 := hlt nb hnbF
  have hY : ∀ k, k = nb → Ro F G k := fun k hk => .inr (hk ▸ hnbG)
  have hX : ∀ k, Ro (fun k => F k ∨ (z ≤ k ∧ k < w7.heap.size)) (fun k => (G k ∧ ¬ Gp i k) ∨ (z ≤ k ∧ k < w4.heap.size)) k → Ro F G k := fun k hk => by
    rcases hk with h1 | h1 | h1
    · exact .inl fun h2 => h1 (.inl h2)
    · exact .inr h1.1
    · exact .inl fun h2 => by have := hlt k h2; omega
  obtain ⟨n1, n2, n3⟩ := h.nval i hi
  have hput := h.putN' hi (x' := startN st i v) (y' := ⟨(nv i).v, .pointer (some ⟨ri, 0, none⟩), .slice va v.length vc, (nv i).e⟩) (Gi := fun k => z ≤ k ∧ k < w4.heap.size) (G2 := fun k => (G k ∧ ¬ Gp i k) ∨ (z ≤ k ∧ k < w4.heap.size)) (F' := fun k => F k ∨ (z ≤ k ∧ k < w7.heap.size)) (c' := c)
    (fun k hk => hk.imp (fun h => h.1) id) (fun k h1 h2 => .inl ⟨h1, h2⟩) (fun k hk => .inr hk) hf (fun k hk => .inl hk) b7 (by subst hs1; exact R7)
    (fun k hk => .inr ⟨fun h2 => by have := hlt k h2; omega, .inr ⟨by omega, by omega⟩⟩) ((n1.up hf hY).mono hX) (h.z0 i hi)
    ⟨Byt.of_own (own_fr (own_base ho) f7 (fun k hk e => by have := (ho.lt k hk).1; omega)), fun k hk _ => by
      have h2 := ho.lt k hk
      refine ⟨.inr ⟨by omega, by omega⟩, fun h3 => ?_⟩
      rcases h3 with h3 | h3
      · have := hlt k (h.GF k h3.1); omega
      · omega⟩
    ⟨n3.1.fr' hf (fun k hk hn e => by
        rcases (n3.2 k hk hn).2 with h4 | h4
        · exact h4 (e ▸ hnbG)
        · exact (h.dr i hi).2.1 (e ▸ h4.1)), fun k hk hn => by
        obtain ⟨h3, h4⟩ := n3.2 k hk hn
        refine ⟨.inl h3, .inl fun h5 => ?_⟩
        rcases h5 with h5 | h5
        · rcases h4 with h4 | h4
          · exact h4 h5.1
          · exact h5.2 h4.1
        · have := hlt k h3; omega⟩
    (.inr ⟨_, ri, rs0 st.q s1 (i : Int) 1, rfl, rfl, ((hP.fr f5 (fun k hk e => by omega)).fr hf6 (fun _ _ h => h)).fr f7 (fun k hk e => by omega), by subst hs1; exact Rel.new _ _ _ _, Nat.zero_le _, Nat.zero_le _, fun h => absurd rfl h⟩) (Nat.le_refl c)
    ⟨hx.pn, hx.pd0, hx.pd1, hx.vt, hs, hs, by show (0 : Int) ≤ (i : Int); omega, by show (i : Int) < 12; omega, hv, hx.ln, fun p hp => by
      have hp : some (newP st.q ((st.nd i).seen + 1) (i : Int) 1) = some p := hp
      injection hp with hp
      subst hp
      exact ⟨rfl, rfl, rfl, rfl⟩⟩
    (fun k hk => .inl hk) (fun k hk => by rcases hk with hk | hk; have := hlt k hk; omega; exact hk.2)
  exact ⟨_, _, ⟨_, _, _, _, _, _, hput⟩, fun k hk => hk.elim (fun h => .inl h.1) (fun h => .inr (by omega)), fun k hk => hk.elim .inl (fun h => .inr (by omega)), hf.mono fun k _ e => e ▸ hnbG, fun k hk => .inl hk, fun k hk => hk.imp id (fun h => h.1)⟩
set_option maxRecDepth 100000 in
set_option maxHeartbeats 16000000 in
theorem rstart_any (r nb : Nat) (st : Sy) (c : Nat) (G F : Nat → Prop) (a : Int) (s : Value) (v : List UInt8) (w : World) (h : Rf w r nb st c G F) (hv : Byt w s v) (hvX : ∀ k, s.ownBlock = some k → v ≠ [] → ¬ G k) (hvl : v.length ≤ 1000) :
    Calls Try.prog 47 #[.pointer (some ⟨r, 0, none⟩), .int .i64 a, s] w (RStartPost r nb st c G F a v w) := by
  have hwf := h.wf
  have hN := hwf.n12
  have hv0 := hv
  obtain ⟨sa, sc, rfl, -, -⟩ := hv0
  obtain ⟨w1, hw1⟩ : ∃ w1, w1 = w.alloc (.cells #[.int .u64 0, .int .i64 0] 44) := ⟨_, rfl⟩
  have hf1 : Fr (fun _ => False) w w1 := by rw [hw1]; exact (Fr.refl _ w).alloc _
  have hB1 : Blk w1 w.heap.size 44 #[.int .u64 0, .int .i64 0] := by rw [hw1]; exact Blk.new _ _ _
  obtain ⟨br, hbr⟩ : ∃ b, b = w.heap.size := ⟨_, rfl⟩
  rw [← hbr] at hB1
  have h1 := h.none_ hf1
  have HF := Lib.hid (And.intro h (And.intro hf1 (And.intro hv hvX)))
  have HW1 := Lib.hid (And.intro hw1 hbr)
  obtain ⟨sv, lv, cs, nv, mv, Gp, hx⟩ := h1
  have r5 : w1.cell? ⟨r, 5, none⟩ = some (.slice (some ⟨nb, 0, none⟩) st.N st.N) := hx.blk.cell 5 rfl
  have hN12 := hN.2.1
  have c0 := hB1.cell 0 rfl
  have c1 := hB1.cell 1 rfl
  have cf := hB1.frozen
  have hrz := row2b hB1 (.int .u64 0) (.int .i64 0)
  have hfz : Fr (fun k => k = br) w1 ((w1.setCell ⟨br, 0, none⟩ (.int .u64 0)).setCell ⟨br, 1, none⟩ (.int .i64 0)) := (Fr.set1 w1 br 0 _).setCell (p := ⟨br, 1, none⟩) (fun _ => rfl) _
  have hfwz : Fr (fun _ => False) w ((w1.setCell ⟨br, 0, none⟩ (.int .u64 0)).setCell ⟨br, 1, none⟩ (.int .i64 0)) := hf1.trans hfz (fun k hk h => h.elim id (fun e => by have e : k = br := e; omega))
  have HZ := Lib.hid (And.intro hrz hfwz)
  by_cases hok : 0 ≤ a ∧ a < st.q.n ∧ v.length ≤ 100
  · obtain ⟨ha0, ha1, hvl100⟩ := hok
    obtain ⟨i, rfl⟩ := Int.eq_ofNat_of_zero_le ha0
    have hi : i < st.N := by omega
    have hi0 : (0 : Int) ≤ (i : Int) := by omega
    have hi0' : ¬ (i : Int) < 0 := by omega
    have hi1 : (i : Int) < (st.N : Int) := by omega
    have hi2 : ¬ (st.N : Int) ≤ (i : Int) := by omega
    have hv1 : ¬ (100 : Int) < (v.length : Int) := by omega
    have n3 : w1.cell? ⟨nb, i * 8 + 3, none⟩ = some (.int .u64 ((st.nd i).seen : Int)) := (hx.ndr hi).cell hx.nblk (j := 3) rfl
    have nf := hx.nblk.frozen
    by_cases hse : lastN ≤ (st.nd i).seen
    · have hE : startE st (i : Int) v = 5 := by unfold startE; rw [if_pos ⟨ha0, ha1, hvl100⟩, Int.toNat_natCast, if_pos hse]
      have hse' : (4611686018427387904 : Int) ≤ ((st.nd i).seen : Int) := by unfold lastN at hse; omega
      have HE := Lib.hid hE
      clear hw1 hbr hf1 hB1 hx hwf hN hv hvX hrz hfz hfwz hE
      go_enter Try.func47, Try.ntmps47
      go_upto_region 1 with (fail)
      rw [← HW1.out.1, ← HW1.out.2]
      clear HW1
      go_wp2_with fail
      refine bodyPost_ret (results_row_tmp rfl _ _ br 44 #[.int .u64 0, .int .i64 0] (0, 0) _ rfl HZ.out.1 Try.underlying44 rfl (by kernel_rfl)) rfl ?_
      exact rstart_no HF.out.1 HE.out (by decide) HZ.out.2
    · have hE : startE st (i : Int) v = 0 := by unfold startE; rw [if_pos ⟨ha0, ha1, hvl100⟩, Int.toNat_natCast, if_neg hse]
      have hsl : (st.nd i).seen < lastN := by omega
      have hse' : ¬ (4611686018427387904 : Int) ≤ ((st.nd i).seen : Int) := by unfold lastN at hse; omega
      obtain ⟨s1, hs1⟩ : ∃ s, s = (st.nd i).seen + 1 := ⟨_, rfl⟩
      obtain ⟨w2, hw2⟩ : ∃ w2, w2 = w1.setCell ⟨nb, i * 8 + 3, none⟩ (.int .u64 (s1 : Int)) := ⟨_, rfl⟩
      have hB2n := hx.nblk.set_ (i * 8 + 3) (.int .u64 (s1 : Int))
      rw [← hw2] at hB2n
      have hR2 := (hx.ndr hi).set_ hi (j0 := 3) (by omega) (.int .u64 (s1 : Int))
      have hf12 : Fr (fun k => k = nb) w1 w2 := by rw [hw2]; exact Fr.set1 _ _ _ _
      have hbrn : br ≠ nb := hB1.ne_ hx.nblk (by decide)
      have hrn : r ≠ nb := hx.blk.ne_ hx.nblk (by decide)
      have hbrr : br ≠ r := hB1.ne_ hx.blk (by decide)
      have hwr : ((st.nd i).seen : Int) + 1 = (s1 : Int) := by omega
      have HX := Lib.hid (And.intro hx (And.intro hB2n (And.intro hR2 (And.intro hf12 (And.intro hbrn (And.intro hrn (And.intro hbrr hB1)))))))
      have HW2 := Lib.hid hw2
      have HWr := Lib.hid hwr
      have HS1 := Lib.hid (And.intro hs1 ha1)
      have HE := Lib.hid (And.intro hE hsl)
      clear hw1 hbr hf1 hB1 hx hwf hN hv hvX hrz hfz hfwz hE hw2 hB2n hR2 hf12 hbrn hrn hbrr hse hsl ha0 ha1 hwr hs1
      go_enter Try.func47, Try.ntmps47
      go_upto_region 1 with (fail)
      rw [← HW1.out.1, ← HW1.out.2]
      go_upto_region 6 with (fail)
      rw [HWr.out, ← HW2.out]
      obtain ⟨hx, hB2n, hR2, hf12, hbrn, hrn, hbrr, hB1⟩ := HX.out
      have hrb2 := hx.blk.fr hf12 hrn
      have hsite2 := own_fr hx.site hf12 (fun k hk e => by have e : k = nb := e; have h1 := hx.siteF k hk; exact h1.2 (e ▸ hx.Gn))
      have n3' : w2.cell? ⟨nb, i * 8 + 3, none⟩ = some (.int .u64 (s1 : Int)) := hR2.cell hB2n (j := 3) rfl
      have r5' : w2.cell? ⟨r, 5, none⟩ = some (.slice (some ⟨nb, 0, none⟩) st.N st.N) := hrb2.cell 5 rfl
      obtain ⟨w3, hw3⟩ : ∃ w3, w3 = w2.alloc (.cells #[.int .u64 (s1 : Int), .int .i64 (i : Int)] 44) := ⟨_, rfl⟩
      have hf23 : Fr (fun _ => False) w2 w3 := by rw [hw3]; exact (Fr.refl _ w2).alloc _
      have hbb3 : Blk w3 w2.heap.size 44 #[.int .u64 (s1 : Int), .int .i64 (i : Int)] := by rw [hw3]; exact Blk.new _ _ _
      obtain ⟨bb, hbb⟩ : ∃ b, b = w2.heap.size := ⟨_, rfl⟩
      rw [← hbb] at hbb3
      have hrb3 := hrb2.fr hf23 (fun h => h)
      have hsite3 := own_fr hsite2 hf23 (fun _ _ h => h)
      have HW3 := Lib.hid (And.intro hw3 hbb)
      have hok1 := hx.wf.ok.right
      have hql := hx.wf.ql
      have HNw := Lib.hid (fun (wx : World) (hfx : Fr (fun _ => False) w3 wx) => rnew_ok st.q sv s1 (i : Int) 1 wx (ints_own (own_fr hsite3 hfx (fun _ _ h => h))) (fun c e => by
        rcases own_form hsite3 with ⟨h1, _⟩ | ⟨g, cap, cur, h1, _⟩
        · rw [h1] at e; injection e with _ _ e; exact e.symm
        · rw [h1] at e; cases e) hql hok1 (by unfold rightB; rw [decide_eq_true_eq]; have := HS1.out; omega) (by have := HE.out.2; have := HS1.out; unfold lastN at *; omega) (by omega) (by omega))
      have H3 := Lib.hid (And.intro hf23 (And.intro hbb3 (And.intro hrb3 hsite3)))
      clear hx hB2n hR2 hf12 hbrn hrn hbrr hB1 hrb2 hsite2 hw3 hbb hf23 hbb3 hrb3 hsite3 hok1 hql c0 c1 cf nf
      go_upto_region 7 with (fail)
      rw [← HW3.out.1, ← HW3.out.2]
      clear n3 n3' r5 r5'
      have q0 : w3.cell? ⟨r, 0, none⟩ = some (.int .i64 st.q.k) := H3.out.2.2.1.cell 0 rfl
      have q1 : w3.cell? ⟨r, 1, none⟩ = some (.int .i64 st.q.n) := H3.out.2.2.1.cell 1 rfl
      have q2 : w3.cell? ⟨r, 2, none⟩ = some (.int .i64 st.q.o) := H3.out.2.2.1.cell 2 rfl
      have q3 : w3.cell? ⟨r, 3, none⟩ = some (.int .i64 st.q.t) := H3.out.2.2.1.cell 3 rfl
      have q4 : w3.cell? ⟨r, 4, none⟩ = some sv := H3.out.2.2.1.cell 4 rfl
      obtain ⟨va0, vc0, hsv⟩ := own_sl5 H3.out.2.2.2
      rw [hsv] at q4 HNw
      have HSv := Lib.hid hsv
      have d0 : w3.cell? ⟨bb, 0, none⟩ = some (.int .u64 (s1 : Int)) := H3.out.2.1.cell 0 rfl
      have d1 : w3.cell? ⟨bb, 1, none⟩ = some (.int .i64 (i : Int)) := H3.out.2.1.cell 1 rfl
      have hf := (Fr.refl (fun _ => False) w3).drew
      simp only [Qu.v] at HNw
      clear hsv
      go_cut [9, 10] (fun x9 x10 wx => ∃ ri, x9 = .pointer (some ⟨ri, 0, none⟩) ∧ x10 = .int .i64 0 ∧ RR wx ri (rs0 st.q s1 (i : Int) 1) (fun k => w3.heap.size ≤ k ∧ k < wx.heap.size) ∧ Fr (fun _ => False) w3 wx)
      case first =>
        first
          | go_region_held3 (fun wx => wx.cell? ⟨r, 0, none⟩ = some (.int .i64 st.q.k) ∧ wx.cell? ⟨r, 1, none⟩ = some (.int .i64 st.q.n) ∧ wx.cell? ⟨r, 2, none⟩ = some (.int .i64 st.q.o) ∧ wx.cell? ⟨r, 3, none⟩ = some (.int .i64 st.q.t) ∧ wx.cell? ⟨r, 4, none⟩ = some (.slice va0 st.q.s.length vc0) ∧ wx.cell? ⟨bb, 0, none⟩ = some (.int .u64 (s1 : Int)) ∧ wx.cell? ⟨bb, 1, none⟩ = some (.int .i64 (i : Int)))
              (first | exact ⟨q0, q1, q2, q3, q4, d0, d1⟩ | exact hS4)
              ((go_at_call 67
                refine (HNw.out _ hf).mono ?_
                rintro e w4 ⟨ri, rfl, hR4, hf4⟩
                have hz3 : w3.drew.heap.size = w3.heap.size := rfl
                rw [hz3] at hR4
                replace hf := hf.tr hf4
                have hS4 := And.intro (hf.cell q0 (fun h => h)) (And.intro (hf.cell q1 (fun h => h)) (And.intro (hf.cell q2 (fun h => h)) (And.intro (hf.cell q3 (fun h => h)) (And.intro (hf.cell q4 (fun h => h)) (And.intro (hf.cell d0 (fun h => h)) (hf.cell d1 (fun h => h)))))))))
          | fail
        all_goals
          go_wp2_with fail
          go_meet
          exact ⟨ri, rfl, rfl, hR4, hf⟩
      case rest =>
        obtain ⟨ri, rfl, rfl, hR4, hf4⟩ := hcut
        obtain ⟨w4, hw4⟩ : ∃ w4, w4 = wc := ⟨_, rfl⟩
        rw [← hw4] at hR4 hf4 ⊢
        clear hw4 hf q0 q1 q2 q3 q4 d0 d1 HNw
        obtain ⟨hx, hB2n, hR2, hf12, hbrn, hrn, hbrr, hB1⟩ := HX.out
        obtain ⟨hf23, hbb3, hrb3, hsite3⟩ := H3.out
        obtain ⟨h, hf01, hv, hvX⟩ := HF.out
        have HF4 := Lib.hid hf4
        have hf24 : Fr (fun _ => False) w2 w4 := hf23.tr hf4
        have hB4 := hB2n.fr hf24 (fun h => h)
        have hrb4 := hrb3.fr hf4 (fun h => h)
        have hs23 := hf23.size
        have hbbn : bb ≠ nb := hbb3.ne_ (hB2n.fr hf23 (fun h => h)) (by decide)
        have r5 : w4.cell? ⟨r, 5, none⟩ = some (.slice (some ⟨nb, 0, none⟩) st.N st.N) := hrb4.cell 5 rfl
        obtain ⟨p4, n4⟩ : ∃ p4, w4.cell? ⟨nb, i * 8 + 4, none⟩ = some p4 := ⟨_, hR2.cell hB4 (j := 4) rfl⟩
        have nf := hB4.frozen
        obtain ⟨w5, hw5⟩ : ∃ w5, w5 = w4.setCell ⟨nb, i * 8 + 4, none⟩ (.pointer (some ⟨ri, 0, none⟩)) := ⟨_, rfl⟩
        have hB5 := hB4.set_ (i * 8 + 4) (.pointer (some ⟨ri, 0, none⟩))
        rw [← hw5] at hB5
        have hR5 := hR2.set_ hi (j0 := 4) (by omega) (.pointer (some ⟨ri, 0, none⟩))
        have hf45 : Fr (fun k => k = nb) w4 w5 := by rw [hw5]; exact Fr.set1 _ _ _ _
        have hrb5 := hrb4.fr hf45 hrn
        have hvn : ∀ k, (Value.slice sa v.length sc).ownBlock = some k → v ≠ [] → k ≠ nb := fun k hk hn e => hvX k hk hn (by
          obtain ⟨sv', lv', cs', nv', mv', Gp', h'⟩ := h
          exact e ▸ hx.Gn)
        have hv5 : Byt w5 (.slice sa v.length sc) v := ((hv.fr hf01 (fun _ _ h => h)).fr' ((hf12.tr hf24.none_up).tr hf45) (fun k hk hn e => hvn k hk hn e))
        have HV5 := Lib.hid (fun (wx : World) (hfx : Fr (fun _ => False) w5 wx) => lcopy_any _ v wx (hv5.fr hfx (fun _ _ h => h)) (by omega))
        have HW5 := Lib.hid hw5
        have H5 := Lib.hid (And.intro hB5 (And.intro hR5 (And.intro hf45 (And.intro hf24 (And.intro hR4 (And.intro hs23 (And.intro hbbn hrb5)))))))
        clear hx hB2n hR2 hf12 hbrn hbrr hB1 hf23 hbb3 hrb3 hsite3 h hf01 hv hvX hf24 hB4 hrb4 hw5 hB5 hR5 hf45 hrb5 hvn hv5 hR4 hf4 hs23 hbbn
        go_upto_region 9 with (fail)
        rw [← HW5.out]
        clear r5 n4 nf
        have r5 : w5.cell? ⟨r, 5, none⟩ = some (.slice (some ⟨nb, 0, none⟩) st.N st.N) := H5.out.2.2.2.2.2.2.2.cell 5 rfl
        obtain ⟨a5, n5⟩ : ∃ a5, w5.cell? ⟨nb, i * 8 + 5, none⟩ = some a5 := ⟨_, H5.out.2.1.cell H5.out.1 (j := 5) rfl⟩
        have nf : w5.frozen? ⟨nb, i * 8 + 5, none⟩ = false := H5.out.1.frozen _
        have hf := (Fr.refl (fun _ => False) w5).drew
        go_cut [11] (fun _ wx => ∃ va vc w6, Fr (fun _ => False) w5 w6 ∧ w6.ownsRow w5.heap.size 5 1 (.slice va v.length vc) v.length (u8s v) ∧ wx = w6.setCell ⟨nb, i * 8 + 5, none⟩ (.slice va v.length vc))
        case first =>
          go_region_held3 (fun wx => wx.cell? ⟨r, 5, none⟩ = some (.slice (some ⟨nb, 0, none⟩) st.N st.N))
                (first | exact r5 | exact hS6 | (rw [ks_eq hrn]; exact hS6))
                ((go_at_call 66
                  refine (HV5.out _ hf).mono ?_
                  rintro e w6 ⟨va, vc, rfl, ho6, hf6⟩
                  have hz5 : w5.drew.heap.size = w5.heap.size := rfl
                  rw [hz5] at ho6
                  replace hf := hf.tr hf6
                  have hS6 := hf.cell r5 (fun h => h)
                  have n5' := hf.cell n5 (fun h => h)
                  have nf' : w6.frozen? ⟨nb, i * 8 + 5, none⟩ = false := (H5.out.1.fr hf (fun h => h)).frozen _))
          all_goals
            go_wp2_with fail
            go_meet
            exact ⟨va, vc, w6, hf, ho6, rfl⟩
        case rest =>
          obtain ⟨va, vc, w6, hf6, ho6, hw⟩ := hcut
          obtain ⟨w7, hw7⟩ : ∃ w7, w7 = wc := ⟨_, rfl⟩
          rw [← hw7] at hw ⊢
          clear hw7
          obtain ⟨hx, hB2n, hR2, hf12, hbrn, -, hbrr, hB1⟩ := HX.out
          obtain ⟨hf23, hbb3, hrb3, hsite3⟩ := H3.out
          obtain ⟨hB5, hR5, hf45, hf24, hR4, hs23, hbbn, hrb5⟩ := H5.out
          obtain ⟨h, hf01, hv, hvX⟩ := HF.out
          have hf4 := HF4.out
          have hf67 : Fr (fun k => k = nb) w6 w7 := by rw [hw]; exact Fr.set1 _ _ _ _
          obtain ⟨G2, F2, hR7, hnG7, hnF7, hf17, hFF7, hF7⟩ := hx.started (w2 := w2) (z := w3.heap.size) hi HS1.out.1 HW2.out hs23 hR4 hf24 HW5.out hf6 ho6 hw hf4.size hvl100 HE.out.2
          have hbb7 := (((hbb3.fr hf4 (fun h => h)).fr hf45 hbbn).fr hf6 (fun h => h)).fr hf67 hbbn
          have hs01 := hf01.size
          have hs17 := hf17.size
          have hlt := h.lt
          have hbrF : ¬ F br := fun hk => by have := hlt br hk; have := HW1.out.2; omega
          have hbrG : ¬ G br := fun hk => hbrF (hx.GF br hk)
          have hbr7 := hB1.fr hf17 hbrG
          have hbrl := hB1.lt
          have hs12 := hf12.size
          have hbbe := HW3.out.2
          have hbbl : bb < w3.heap.size := hbb3.lt
          have hbbF : ¬ F2 bb := fun hk => by
            rcases hF7 bb hk with h1 | h1
            · have := hlt bb h1; omega
            · omega
          have hbrF2 : ¬ F2 br := fun hk => by
            rcases hF7 br hk with h1 | h1
            · exact hbrF h1
            · omega
          have hbbG : ¬ G2 bb := fun hk => by
            obtain ⟨sv', lv', cs', nv', mv', Gp', h'⟩ := hR7
            exact hbbF (h'.GF bb hk)
          have hbrG2 : ¬ G2 br := fun hk => by
            obtain ⟨sv', lv', cs', nv', mv', Gp', h'⟩ := hR7
            exact hbrF2 (h'.GF br hk)
          obtain ⟨st7, hst7⟩ : ∃ s, s = st.upd i (startN st i v) := ⟨_, rfl⟩
          rw [← hst7] at hR7
          obtain ⟨L, hL⟩ : ∃ L, L = startL st i := ⟨_, rfl⟩
          have hN7 : st7.N = st.N := by rw [hst7]; rfl
          have hlm : ∀ j, j < st.N → LWf st7.N { L with dst := j } := fun j hj => by
            rw [hN7, hL]
            exact startL_wf (st := st) hi hj hN12 (by have := HE.out.2; unfold lastN at *; omega)
          have hmv : ∀ j : Nat, mailV { L with dst := j } (.slice none 0 0) = .agg #[.int .i64 1, .int .i64 (i : Int), .int .i64 (j : Int), .int .u64 (s1 : Int), .int .i64 (i : Int), .slice none 0 0] := fun j => by rw [hL, HS1.out.1]; rfl
          have hfin : startS st (i : Int) v = allS st7 L st.N := by unfold startS; rw [if_pos HE.out.1, Int.toNat_natCast, hst7, hL]
          have hLv : L.vs = [] := by rw [hL]; rfl
          have hsz : w1.heap.size ≤ w7.heap.size := hs17
          have HT := Lib.hid (And.intro hR7 (And.intro hnG7 (And.intro hnF7 (And.intro hf17 (And.intro hFF7 (And.intro hbb7 (And.intro hbr7 (And.intro hbbF (And.intro hbrF2 (And.intro hbbG hbrG2))))))))))
          have HU := Lib.hid (And.intro hN7 (And.intro hlm (And.intro hmv (And.intro hfin (And.intro hLv (And.intro hf01 (And.intro hsz (And.intro hbrl (And.intro hbb7.lt hbrF)))))))))
          clear hx hB2n hR2 hf12 hbrn hbrr hB1 hf23 hbb3 hrb3 hsite3 hB5 hR5 hf45 hf24 hR4 hs23 hbbn hrb5 hf01 hv hvX hf4 hf67 hR7 hnG7 hnF7 hf17 hFF7 hF7 hbb7 hs01 hs17 hlt hbrF hbrG hbr7 hbrl hs12 hbbe hbbl hbbF hbrF2 hbbG hbrG2 hst7 hL hN7 hlm hmv hfin hLv hsz hw hf6 ho6 r5 n5 nf hf
          go_wp2_with fail
          go_loopg [11] st.N (fun g x11 wr => ∃ j : Nat, j + g = st.N ∧ x11 = .int .i64 j ∧ RfTo w7 r nb (allS st7 L j) c G2 F2 wr)
          case atStart => exact ⟨0, by omega, rfl, RfTo.refl HT.out.1 (Fr.refl _ _)⟩
          case round =>
            obtain ⟨j, hj, rfl, hto⟩ := hrel
            have HJ := Lib.hid hj
            obtain ⟨G3, F3, hR3, hnG3, hnF3, hf3, hFF3⟩ := hto
            have hNj : (allS st7 L j).N = st.N := by rw [allS_N]; exact HU.out.1
            have hr5 : wr.cell? ⟨r, 5, none⟩ = some (.slice (some ⟨nb, 0, none⟩) st.N st.N) := by
              obtain ⟨sv', lv', cs', nv', mv', Gp', h'⟩ := hR3
              have h1 := h'.blk.cell 5 rfl
              rw [hNj] at h1
              exact h1
            have hbb := HT.out.2.2.2.2.2.1.fr hf3 HT.out.2.2.2.2.2.2.2.2.2.1
            have d0 : wr.cell? ⟨bb, 0, none⟩ = some (.int .u64 (s1 : Int)) := hbb.cell 0 rfl
            have d1 : wr.cell? ⟨bb, 1, none⟩ = some (.int .i64 (i : Int)) := hbb.cell 1 rfl
            have hjle : j ≤ st.N := by omega
            have HR := Lib.hid (And.intro hR3 (And.intro hnG3 (And.intro hnF3 (And.intro hf3 (And.intro hFF3 (And.intro hNj hbb))))))
            clear hj hR3 hnG3 hnF3 hf3 hFF3 hNj hbb
            by_cases hjN : j < st.N
            · have hsd := rsend_any r nb (allS st7 L j) c G3 F3 (fun _ => False) { L with dst := j } (.slice none 0 0) wr HR.out.1 (by rw [allS_N]; exact HU.out.2.1 j hjN) (by show VtL wr (.slice none 0 0) L.vs _; rw [HU.out.2.2.2.2.1]; exact VtL.nil _ _)
              rw [HU.out.2.2.1 j] at hsd
              have HSd := Lib.hid hsd
              clear hsd
              go_wp2_with fail
              refine HSd.out.mono ?_
              rintro e w9 ⟨rfl, hsent⟩
              have HSe := Lib.hid hsent
              clear hsent hr5 d0 d1 HSd
              go_wp2_with fail
              go_roundg (st.N - (j + 1))
              case measure => have := HJ.out; omega
              case rel =>
                exact ⟨j + 1, by have := HJ.out; omega, by go_num, HSe.out.of HR.out.2.2.2.1 HR.out.2.1 HR.out.2.2.1 HR.out.2.2.2.2.1⟩
            · have hje : j = st.N := by omega
              subst hje
              have hbr := HT.out.2.2.2.2.2.2.1.fr HR.out.2.2.2.1 HT.out.2.2.2.2.2.2.2.2.2.2
              have b0 : wr.cell? ⟨br, 0, none⟩ = some (.int .u64 0) := hbr.cell 0 rfl
              have b1 : wr.cell? ⟨br, 1, none⟩ = some (.int .i64 0) := hbr.cell 1 rfl
              have bf := hbr.frozen
              have HRow := Lib.hid (row2 hbr (.int .u64 (s1 : Int)) (.int .i64 (i : Int)))
              clear hbr
              go_wp2_with fail
              refine bodyPost_ret (results_row_tmp rfl _ _ br 44 #[.int .u64 (s1 : Int), .int .i64 (i : Int)] (0, 0) _ rfl HRow.out.1 Try.underlying44 rfl (by kernel_rfl)) rfl ?_
              refine ⟨by unfold startB; rw [if_pos HE.out.1, HE.out.1, Int.toNat_natCast, HS1.out.1]; rfl, ?_⟩
              rw [HU.out.2.2.2.1]
              obtain ⟨hR3, hnG3, hnF3, hf3, hFF3, hNj, hbb⟩ := HR.out
              obtain ⟨hR7, hnG7, hnF7, hf17, hFF7, hbb7, hbr7, hbbF, hbrF2, hbbG, hbrG2⟩ := HT.out
              obtain ⟨hN7, hlm, hmv, hfin, hLv, hf01, hsz, hbrl, hbb7l, hbrF⟩ := HU.out
              have hs01 := hf01.size
              have hs3 := hf3.size
              have hs9 := HRow.out.2.size
              have hwbr : w.heap.size ≤ br := by have := HW1.out.2; omega
              have hbrF3 : ¬ F3 br := fun hk => (hnF3 br hk).elim hbrF2 (fun h => by omega)
              have q1 : Fr G w w7 := hf01.none_up.tr hf17
              have q2 : Fr G w wr := q1.trans hf3 (fun k hk hx => hx.elim id (fun hg => (hnG7 k hg).elim id (fun h => by omega)))
              refine ⟨G3, F3, hR3.fr HRow.out.2 (fun k hk e => hbrF3 (e ▸ hk)), fun k hk => ?_, fun k hk => ?_, q2.trans HRow.out.2 (fun k hk hx => hx.elim id (fun e => by omega)), fun k hk => hFF3 k (hFF7 k hk)⟩
              · rcases hnG3 k hk with h5 | h5
                · exact (hnG7 k h5).imp id (fun h => by omega)
                · exact .inr (by omega)
              · rcases hnF3 k hk with h5 | h5
                · exact (hnF7 k h5).imp id (fun h => by omega)
                · exact .inr (by omega)
  · have hE : startE st a v = 2 := by unfold startE; rw [if_neg hok]
    have hcs : a < 0 ∨ (¬ a < 0 ∧ (st.N : Int) ≤ a) ∨ (¬ a < 0 ∧ ¬ (st.N : Int) ≤ a ∧ (100 : Int) < (v.length : Int)) := by omega
    have HE := Lib.hid hE
    clear hw1 hbr hf1 hB1 hx hwf hN hv hvX hrz hfz hfwz hE hok
    go_enter Try.func47, Try.ntmps47
    go_upto_region 1 with (fail)
    rw [← HW1.out.1, ← HW1.out.2]
    clear HW1
    rcases hcs with h1 | ⟨h1, h2⟩ | ⟨h1, h2, h3⟩
    all_goals
      go_wp2_with fail
      refine bodyPost_ret (results_row_tmp rfl _ _ br 44 #[.int .u64 0, .int .i64 0] (0, 0) _ rfl HZ.out.1 Try.underlying44 rfl (by kernel_rfl)) rfl ?_
      exact rstart_no HF.out.1 HE.out (by decide) HZ.out.2
end Go.Proofs.Ytkpfgoalohbfeaa
