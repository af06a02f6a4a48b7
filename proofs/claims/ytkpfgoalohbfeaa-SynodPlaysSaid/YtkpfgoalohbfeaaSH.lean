/- accepted. -/
import Derived.Test.YtkpfgoalohbfeaaSG
namespace Go.Proofs.Ytkpfgoalohbfeaa
open Go.RowKit

section
variable {w w' w2 : World} {r nb c c' : Nat} {st st' : Sy} {G G' F F' X Y : Nat → Prop} {sv lv : Value} {cs cs' : Array Value} {nv : Nat → Nv} {mv : List Value} {Gp : Nat → Nat → Prop}
/-- A node's proposer turned in its own blocks. -/
theorem RmX.putP (h : RmX w r nb st c G F sv lv cs nv mv Gp) {i : Nat} (hi : i < st.N) {p p' : Ps} {ri : Nat} (hp : (st.nd i).p = some p) (hy : (nv i).p = .pointer (some ⟨ri, 0, none⟩)) {Gi : Nat → Prop} (hR : PR w' ri p' c' Gi) (hc : c ≤ c') (hn : Nx (Gp i) Gi w w') (hf : Fr (Gp i) w w')
    (h1 : p'.q = p.q) (h2 : p'.n = p.n ∧ p'.d = p.d) (h3 : p'.f = p.f) (hF : ∀ k, F' k ↔ F k ∨ Gi k) (hlt : ∀ k, Gi k → k < w'.heap.size) :
    RmX w' r nb (st.upd i { st.nd i with p := some p' }) c' (fun k => G k ∨ Gi k) F' sv lv cs (fun a => if a = i then nv i else nv a) mv (fun a => if a = i then Gi else Gp a) := by
  have hlt0 := h.lt
  have hYR : ∀ k, Gp i k → Ro F G k := fun k hk => .inr (h.Gg i k hi hk)
  have hs := hf.size
  have hGi : ∀ k, Gi k → Gp i k ∨ (¬ F k ∧ F' k) := fun k hk => by
    rcases hn k hk with h4 | h4
    · exact .inl h4
    · exact .inr ⟨fun h5 => by have := hlt0 k h5; omega, (hF k).2 (.inr hk)⟩
  have hX : ∀ k, Ro F' (fun k => G k ∨ Gi k) k → Ro F G k := fun k hk => by
    rcases hk with h1 | h1 | h1
    · exact .inl fun h2 => h1 ((hF k).2 (.inl h2))
    · exact .inr h1
    · rcases hGi k h1 with h2 | h2
      · exact .inr (h.Gg i k hi h2)
      · exact .inl h2.1
  obtain ⟨n1, n2, n3⟩ := h.nval i hi
  have hnb : ¬ Gp i nb := (h.dr i hi).2.1
  refine h.putN hi (x' := { st.nd i with p := some p' }) (y' := nv i) hf (fun k hk => .inr (.inl hk)) (h.nblk.fr hf hnb) ?_ hGi ((n1.fr hf hYR).up hX) ((n2.fr hf hYR).up hX) ((n3.fr hf hYR).up hX) (.inr ⟨p', ri, rfl, hy, hR⟩) hc ((h.wf.nd i hi).setP hp h1 h2 h3) (fun k hk => (hF k).2 (.inl hk)) (fun k hk => ?_)
  · exact h.ndr hi
  · rcases (hF k).1 hk with h4 | h4
    · have := hlt0 k h4; omega
    · exact hlt k h4
end
theorem sameB_iff {x : Nd} {m : Lt} : sameB x m = true ↔ x.bn = m.n ∧ x.bd = m.d := by unfold sameB; rw [decide_eq_true_eq]
theorem chB_len {p : Ps} {v : List UInt8} (hw : Wf p) (h : chB p 1 = some v) : v.length ≤ 100 := by
  unfold chB at h
  cases hs : p.sl 1 with
  | none => rw [hs] at h; cases h
  | some y =>
    obtain ⟨V, X⟩ := y
    rw [hs] at h
    simp only [Option.bind_some] at h
    split at h
    · injection h with h; rw [← h]; exact (hw.sl 1 V X hs).2.2.1
    · cases h

set_option maxRecDepth 100000 in
set_option maxHeartbeats 16000000 in
theorem acd_any (r nb : Nat) (st : Sy) (c : Nat) (G F : Nat → Prop) (m : Lt) (A : Option Addr) (vc : Nat) (w : World) (h : Rm w r nb st c G F) (hm : LWf st.N m) :
    Calls Try.prog 42 #[.pointer (some ⟨nb, m.dst * 13, none⟩), mailV m (.slice A m.vs.length vc)] w (VoidTo w r nb (acdS st m) c G F) := by
  have hx := h
  obtain ⟨sv, lv, cs, nv, mv, Gp, h⟩ := h
  have hi := hm.dst
  have hR := h.ndr hi
  obtain ⟨w1, hw1⟩ : ∃ w1, w1 = w.alloc (.cells #[.int .i64 m.k, .int .i64 (m.fr : Int), .int .i64 (m.dst : Int), .int .u64 (m.n : Int), .int .i64 m.d, .slice A m.vs.length vc] 68) := ⟨_, rfl⟩
  have hf1 : Fr (fun _ => False) w w1 := by rw [hw1]; exact (Fr.refl _ w).alloc _
  have hM1 : Blk w1 w.heap.size 68 #[.int .i64 m.k, .int .i64 (m.fr : Int), .int .i64 (m.dst : Int), .int .u64 (m.n : Int), .int .i64 m.d, .slice A m.vs.length vc] := by rw [hw1]; exact Blk.new _ _ _
  obtain ⟨bm, hbm⟩ : ∃ b, b = w.heap.size := ⟨_, rfl⟩
  rw [← hbm] at hM1
  have h1 := h.fr hf1 (fun _ _ h => h)
  have HW1 := Lib.hid (And.intro hw1 hbm)
  have HBM := Lib.hid hbm
  obtain ⟨S', hS⟩ : ∃ S', S' = acdS st m := ⟨_, rfl⟩
  rw [← hS]
  have HS := Lib.hid hS
  have hp := h1.prop m.dst hi
  have HH := Lib.hid (And.intro h1 (And.intro hm (And.intro hf1 hx)))
  simp only [mailV]
  clear hw1 hbm hS h hx
  go_enter Try.func42, Try.ntmps42
  go_upto_region 1 with (fail)
  rw [← HW1.out.1, ← HW1.out.2]
  clear HW1 hf1
  have m1 := hM1.cell 1 rfl
  have m3 := hM1.cell 3 rfl
  have m4 := hM1.cell 4 rfl
  have n8 : w1.cell? ⟨nb, m.dst * 13 + 8, none⟩ = some (.int .u64 ((st.nd m.dst).bn : Int)) := hR.cell h1.nblk (j := 8) rfl
  have n9 : w1.cell? ⟨nb, m.dst * 13 + 9, none⟩ = some (.int .i64 (st.nd m.dst).bd) := hR.cell h1.nblk (j := 9) rfl
  have n7 : w1.cell? ⟨nb, m.dst * 13 + 7, none⟩ = some (nv m.dst).p := hR.cell h1.nblk (j := 7) rfl
  have hGp : ∀ k, Gp m.dst k → G k := fun k hk => h1.Gg m.dst k hi hk
  rcases hp with ⟨hp, hy⟩ | ⟨p, ri, hp, hy, hP⟩
  · have HP := Lib.hid (And.intro hp hy)
    rw [hy] at n7
    clear h1 hM1 hR hp hy hm
    go_quiet (fail)
    go_wp2_with fail
    refine bodyPost_ret (results_none rfl _ _ _) rfl ⟨rfl, ?_⟩
    have hst : S' = st := by rw [HS.out]; unfold acdS; rw [HP.out.1]
    rw [hst]
    exact RmTo.refl HH.out.2.2.2 (HH.out.2.2.1.drewN _)
  · have HP := Lib.hid (And.intro hp (And.intro hy hP))
    rw [hy] at n7
    clear h1 hR hp hy hm hP
    by_cases e1 : (st.nd m.dst).bn = m.n
    · by_cases e2 : (st.nd m.dst).bd = m.d
      · have HE := Lib.hid (And.intro e1 e2)
        rw [e1] at n8
        rw [e2] at n9
        clear e1 e2
        go_quiet (fail)
        go_wp2_with fail
        obtain ⟨w2, hw2⟩ : ∃ w2, w2 = w1.drewN nq := ⟨_, rfl⟩
        have hd2 : Fr (fun _ => False) w1 w2 := by rw [hw2]; exact (Fr.refl _ w1).drewN _
        rw [← hw2]
        clear hw2 n8 n9 m3 m4
        replace n7 := hd2.cell n7 (fun h => h)
        replace m1 := hd2.cell m1 (fun h => h)
        have hd2' : Fr (fun _ => False) w1 w2.drew := hd2.drew
        have hP2 := HP.out.2.2.fr hd2' (fun _ _ _ h => h)
        have hnbG : ¬ Gp m.dst nb := (HH.out.1.dr m.dst HH.out.2.1.dst).2.1
        have hbmG : ¬ Gp m.dst bm := fun hg => by
          have h1 := HH.out.2.2.2.lt bm
          have h2 := HH.out.1.GF bm (hGp bm hg)
          have h3 := h1 h2
          have := HBM.out
          omega
        go_region_held3 (fun wx => wx.cell? ⟨nb, m.dst * 13 + 7, none⟩ = some (.pointer (some ⟨ri, 0, none⟩)) ∧ wx.cell? ⟨bm, 1, none⟩ = some (.int .i64 (m.fr : Int))) (first | exact ⟨n7, m1⟩ | exact hS4)
          ((go_at_call 62
            refine (acc_any ri p c (Gp m.dst) (m.fr : Int) 1 (by omega) _ hP2).mono ?_
            rintro e w3 ⟨rfl, hP3, hf3⟩
            have hS4 := And.intro (hf3.cell n7 hnbG) (hf3.cell m1 hbmG)))
        all_goals
          clear n7 m1 hP2
          have n7 := hS4.1
          clear hS4
          go_wp2_with fail
          refine (chosen_any ri (accP p (m.fr : Int) 1) c (Gp m.dst) 1 (by omega) w3 hP3).mono ?_
          rintro e w4 ⟨va, vc2, rfl, ho4, hf4⟩
          have hf14 : Fr (Gp m.dst) w1 w4 := (hd2'.none_up.tr hf3).tr hf4.none_up
          have hRX := HH.out.1.putP HH.out.2.1.dst (p := p) (p' := accP p (m.fr : Int) 1) (ri := ri) (c' := c) (Gi := Gp m.dst) (F' := F) (w' := w4) HP.out.1 HP.out.2.1 (hP3.fr hf4 (fun _ _ _ h => h)) (Nat.le_refl _) (Nx.refl _ _ _) hf14 (accP_q _ _ _) (accP_n _ _ _) (accP_f _ _ _)
            (fun k => ⟨.inl, fun h => h.elim id (fun h => HH.out.1.GF k (hGp k h))⟩) (fun k hk => by have h1 := HH.out.1.lt k (HH.out.1.GF k (hGp k hk)); have h2 := hf14.size; omega)
          have hwf := hP3.wf
          have hP1 := hP3.fr hf4 (fun _ _ _ h => h)
          have hs3 : w1.heap.size ≤ w3.heap.size := (hd2'.none_up.tr hf3).size
          clear n7 hP3 hf3 hd2 hd2'
          cases hch : chB (accP p (m.fr : Int) 1) 1 with
          | none =>
            have HC := Lib.hid hch
            simp only [Option.isSome_none, Option.getD_none, List.length_nil]
            clear hch ho4 hwf
            go_wp2_with fail
            refine bodyPost_end (results_none rfl _ _ _) rfl ⟨rfl, ?_⟩
            have hst : S' = st.upd m.dst { st.nd m.dst with p := some (accP p (m.fr : Int) 1) } := by
              rw [HS.out]; unfold acdS; rw [HP.out.1]; simp only; rw [if_pos (sameB_iff.2 HE.out), HC.out]
            rw [hst]
            exact ⟨_, _, ⟨_, _, _, _, _, _, hRX⟩, Nx.or hGp, Nx.refl _ _ _, HH.out.2.2.1.none_up.tr (hf14.mono fun k _ hk => hGp k hk)⟩
          | some v =>
            have HC := Lib.hid hch
            rw [hch] at ho4
            simp only [Option.isSome_some, Option.getD_some] at ho4 ⊢
            clear hch
            have nf := hRX.nblk.frozen
            have n11 : w4.cell? ⟨nb, m.dst * 13 + 11, none⟩ = some (nv m.dst).e := (HH.out.1.ndr hi).cell hRX.nblk (j := 11) rfl
            have n12 : w4.cell? ⟨nb, m.dst * 13 + 12, none⟩ = some (.bool (st.nd m.dst).kn) := (HH.out.1.ndr hi).cell hRX.nblk (j := 12) rfl
            have hvl := chB_len hwf HC.out
            have HRX := Lib.hid (And.intro hRX (And.intro hwf (And.intro ho4 hP1)))
            clear hRX hwf ho4 hP1
            go_wp2_with fail
            refine bodyPost_end (results_none rfl _ _ _) rfl ⟨rfl, ?_⟩
            obtain ⟨hRX, hwf, ho4, hP1⟩ := HRX.out
            obtain ⟨w5, hw5⟩ : ∃ w5, w5 = (w4.setCell ⟨nb, m.dst * 13 + 11, none⟩ (.slice va v.length vc2)).setCell ⟨nb, m.dst * 13 + 12, none⟩ (.bool true) := ⟨_, rfl⟩
            rw [← hw5]
            have hB5 := (hRX.nblk.set_ (m.dst * 13 + 11) (.slice va v.length vc2)).set_ (m.dst * 13 + 12) (.bool true)
            rw [← hw5] at hB5
            have hf5 : Fr (fun k => k = nb) w4 w5 := by rw [hw5]; exact (Fr.set1 _ _ _ _).setCell (p := ⟨nb, m.dst * 13 + 12, none⟩) (fun _ => rfl) _
            obtain ⟨h1, hm, hf1, hx⟩ := HH.out
            have hi := hm.dst
            have hR5 := ((h1.ndr hi).set_ hi (j0 := 11) (by omega) (.slice va v.length vc2)).set_ hi (j0 := 12) (by omega) (.bool true)
            have hst : S' = st.upd m.dst { st.nd m.dst with p := some (accP p (m.fr : Int) 1), ln := v, kn := true } := by
              rw [HS.out]; unfold acdS; rw [HP.out.1]; simp only; rw [if_pos (sameB_iff.2 HE.out), HC.out]
            have hfx : Fr (fun k => k = nb ∨ Gp m.dst k) w1 w5 := (hf14.mono fun _ _ h => .inr h).tr (hf5.mono fun _ _ h => .inl h)
            have hYR : ∀ k, (k = nb ∨ Gp m.dst k) → Ro F G k := fun k hk => .inr (hk.elim (fun e => e ▸ h1.Gn) (hGp k))
            have hlt := h1.lt
            have hs1 := hf14.size
            have hs4 := hf4.size
            have hs5 := hf5.size
            have hXX : ∀ k, Ro (fun k => F k ∨ (w1.heap.size ≤ k ∧ k < w5.heap.size)) (fun k => G k ∨ Gp m.dst k) k → Ro F G k := fun k hk => by
              rcases hk with h1 | h1 | h1
              · exact .inl fun h2 => h1 (.inl h2)
              · exact .inr h1
              · exact .inr (hGp k h1)
            obtain ⟨q1, q2, q3⟩ := h1.nval m.dst hi
            have hwn : NWf st.q { st.nd m.dst with p := some (accP p (m.fr : Int) 1), ln := v, kn := true } := by
              have h2 := (h1.wf.nd m.dst hi).setP HP.out.1 (accP_q p (m.fr : Int) 1) (accP_n p (m.fr : Int) 1) (accP_f p (m.fr : Int) 1)
              exact ⟨h2.pn, h2.pd0, h2.pd1, h2.vt, h2.seen, h2.bn, h2.bd0, h2.bd1, h2.val, hvl, h2.p⟩
            have hput := h1.putN hi (x' := { st.nd m.dst with p := some (accP p (m.fr : Int) 1), ln := v, kn := true }) (y' := { nv m.dst with e := .slice va v.length vc2 }) (Gi := Gp m.dst) (F' := fun k => F k ∨ (w1.heap.size ≤ k ∧ k < w5.heap.size)) (c' := c) hfx (fun k hk => hk.elim .inl (fun h => .inr (.inl h))) hB5 hR5 (fun k hk => .inl hk)
              ((q1.fr hfx hYR).up hXX) ((q2.fr hfx hYR).up hXX)
              ⟨Byt.of_own (own_fr ho4 hf5 (fun k hk e => by have := (ho4.lt k hk).1; have := hRX.nblk.lt; have := hlt nb (h1.GF nb h1.Gn); omega)), fun k hk _ => by
                have h2 := ho4.lt k hk
                refine ⟨.inr ⟨by omega, by omega⟩, fun h3 => ?_⟩
                have h4 : G k := h3.elim id (hGp k)
                have := hlt k (h1.GF k h4)
                omega⟩
              (.inr ⟨_, ri, rfl, HP.out.2.1, hP1.fr hf5 (fun k _ hk e => hnbG (e ▸ hk))⟩) (Nat.le_refl c) hwn (fun k hk => .inl hk)
              (fun k hk => by rcases hk with hk | hk; have := hlt k hk; omega; omega)
            rw [hst]
            exact ⟨_, _, ⟨_, _, _, _, _, _, hput⟩, Nx.or hGp, fun k hk => hk.elim .inl (fun h => .inr (by have := hf1.size; omega)), hf1.none_up.tr (hfx.mono fun k _ hk => hk.elim (fun e => e ▸ h1.Gn) (hGp k))⟩
      · have HE := Lib.hid e2
        rw [e1] at n8
        have e2' : ((st.nd m.dst).bd == m.d) = false := by simp [e2]
        clear e1 hM1
        go_quiet (fail)
        go_wp2_with fail
        refine bodyPost_ret (results_none rfl _ _ _) rfl ⟨rfl, ?_⟩
        have hst : S' = st := by rw [HS.out]; unfold acdS; rw [HP.out.1]; simp only; rw [if_neg (fun k => HE.out (sameB_iff.1 k).2)]
        rw [hst]
        exact RmTo.refl HH.out.2.2.2 (HH.out.2.2.1.drewN _)
    · have HE := Lib.hid e1
      have e1' : (((st.nd m.dst).bn : Int) == (m.n : Int)) = false := by simp; omega
      have e1'' : ¬ ((st.nd m.dst).bn : Int) = (m.n : Int) := by omega
      clear hM1
      go_quiet (fail)
      go_wp2_with fail
      refine bodyPost_ret (results_none rfl _ _ _) rfl ⟨rfl, ?_⟩
      have hst : S' = st := by rw [HS.out]; unfold acdS; rw [HP.out.1]; simp only; rw [if_neg (fun k => HE.out (sameB_iff.1 k).1)]
      rw [hst]
      exact RmTo.refl HH.out.2.2.2 (HH.out.2.2.1.drewN _)
end Go.Proofs.Ytkpfgoalohbfeaa
