/- send, all. -/
import Derived.Test.YtkpfgoalohbfeaaSC
import Derived.Deep.RegionLaw
import Derived.Deep.AppendLies
namespace Go.Proofs.Ytkpfgoalohbfeaa
open Go.RowKit

theorem mlinfo : (Try.prog.info? 68).map (fun i => (i.zero, i.size, i.bytes)) = some (some (.agg #[.int .i64 0, .int .i64 0, .int .i64 0, .int .u64 0, .int .i64 0, .slice none 0 0]), 6, 64) := by kernel_rfl
def mailL (m : Lt) (v : Value) : List Value := [.int .i64 m.k, .int .i64 (m.fr : Int), .int .i64 (m.dst : Int), .int .u64 (m.n : Int), .int .i64 m.d, v]
theorem flatM_one' (m : Lt) (v : Value) : flatM [m] [v] = mailL m v := rfl

/-- What a call leaves that turns a room. -/
def RmTo (w : World) (r nb : Nat) (st' : Sy) (c' : Nat) (G F : Nat → Prop) (w' : World) : Prop :=
  ∃ G' F', Rm w' r nb st' c' G' F' ∧ Nx G G' w w' ∧ Nx F F' w w' ∧ Fr G w w'
section
variable {w w1 w2 w3 w' : World} {r nb c c' : Nat} {st st' st2 : Sy} {G G' F F' X Y : Nat → Prop} {sv lv lv' v2 : Value} {cs cs' : Array Value} {nv : Nat → Nv} {mv mv' vs : List Value} {Gp : Nat → Nat → Prop}
theorem Rm.lt (h : Rm w r nb st c G F) : ∀ k, F k → k < w.heap.size := by
  obtain ⟨sv, lv, cs, nv, mv, Gp, h⟩ := h
  exact h.lt
theorem Rm.GF (h : Rm w r nb st c G F) : ∀ k, G k → F k := by
  obtain ⟨sv, lv, cs, nv, mv, Gp, h⟩ := h
  exact h.GF
theorem RmTo.refl (h : Rm w r nb st c G F) (hf : Fr (fun _ => False) w w') : RmTo w r nb st c G F w' := ⟨G, F, h.none_ hf, Nx.refl _ _ _, Nx.refl _ _ _, hf.none_up⟩
theorem RmTo.after (hf : Fr (fun _ => False) w w1) (h : RmTo w1 r nb st c G F w') : RmTo w r nb st c G F w' := by
  obtain ⟨G', F', h1, h2, h3, h4⟩ := h
  have hs := hf.size
  refine ⟨G', F', h1, fun j hj => ?_, fun j hj => ?_, hf.none_up.tr h4⟩
  · rcases h2 j hj with h5 | h5
    · exact .inl h5
    · exact .inr ⟨by omega, h5.2⟩
  · rcases h3 j hj with h5 | h5
    · exact .inl h5
    · exact .inr ⟨by omega, h5.2⟩
theorem Nx.sub {G G' : Nat → Prop} {w w' : World} (h : Nx G G' w w') {k : Nat} (hk : ¬ G k) (hlt : k < w.heap.size) : ¬ G' k := fun h' => by
  rcases h k h' with h1 | h1
  · exact hk h1
  · omega
theorem RmX.sent (h : RmX w r nb st c G F sv lv cs nv mv Gp) {m : Lt} (hf1 : Fr (fun _ => False) w w1) (hC : Cpy w1 w2 v2 m.vs vs) {w2a : World} (hf2 : Fr (fun _ => False) w2 w2a)
    (ha : Appended 0 68 6 w2a lv st.l.length 1 (flatM st.l mv) (mailL m v2) lv' w3) (hl : st.l.length < 200) (hm : LWf st.N m) (hvm : ∀ p ∈ m.vs, VtM p) :
    RmTo w r nb (sendS st m) c G F (w3.setCell ⟨r, 6, none⟩ lv') := by
  have hs1 := hf1.size
  have hs2 := hC.fr.size
  have hs3 := hf2.size
  have h2 := h.fr ((hf1.tr hC.fr).tr hf2) (fun _ _ h => h)
  have hFlt := h.lt
  have hfg : Fr (fun k => lv.ownBlock = some k) w2a w3 := (Fr.refl _ w2a).grown ha.2.1 (fun k hk _ => hk)
  have hf : Fr (fun k => k = r ∨ lv.ownBlock = some k) w2a (w3.setCell ⟨r, 6, none⟩ lv') := (hfg.mono (fun _ _ h => .inr h)).setCell (p := ⟨r, 6, none⟩) (fun _ => .inl rfl) lv'
  have hs4 := hf.size
  have hsz : (w3.setCell ⟨r, 6, none⟩ lv').heap.size = w3.heap.size := by simp
  have hgg : ∀ k, lv'.ownBlock = some k → lv.ownBlock = some k ∨ (k = w2a.heap.size ∧ k < w3.heap.size) := fun k hk => by
    have h1 := (ha.1.lt k hk).2
    rcases ha.2.2 with h3 | h3
    · rw [h3] at hk; exact .inl hk
    · rw [h3] at hk; injection hk with hk; exact .inr ⟨hk.symm, h1⟩
  have hB : Blk w3 r 84 (rmC st.q sv nb st.N lv) := h2.blk.fr hfg (fun e => own_blk_ne h2.lrow h2.blk (by decide) r e rfl)
  have hr3 := own_fr ha.1 (Fr.set1 w3 r 6 lv') (fun k hk => own_blk_ne ha.1 hB (by decide) k hk)
  have hst : sendS st m = { st with l := st.l ++ [m] } := by unfold sendS; rw [if_pos hl]
  have hwf : SWf { st with l := st.l ++ [m] } := by rw [← hst]; exact h.wf.send hm
  rw [hst]
  have hput := h2.putL (l' := st.l ++ [m]) (mv' := mv ++ [v2]) (lv' := lv') (F' := fun k => F k ∨ (w1.heap.size ≤ k ∧ k < w3.heap.size)) hf
    (fun k hk => by rcases hk with hk | hk; exact .inl hk; exact .inr (.inl hk))
    (by simpa [rmC] using hB.set_ 6 lv')
    (by rw [List.length_append, List.length_singleton, flatM_append _ _ _ _ h.mlen, flatM_one']; exact hr3)
    (by simp [h.mlen])
    (fun k hk => by
      rcases hgg k hk with h3 | h3
      · exact .inl h3
      · exact .inr ⟨fun hF => by have := hFlt k hF; omega, .inr ⟨by omega, h3.2⟩⟩)
    (fun i m' v' hm' hv' => by
      by_cases hi : i < st.l.length
      · rw [List.getElem?_append_left hi] at hm'
        rw [List.getElem?_append_left (by rw [h.mlen]; exact hi)] at hv'
        refine ((h2.lval i m' v' hm' hv').up hf (fun k hk => ?_)).mono (fun k hk => ?_)
        · rcases hk with hk | hk
          · exact .inr (hk ▸ h.Gr)
          · exact .inr (h.Gl k hk)
        · rcases hk with hk | hk | hk
          · exact .inl fun hF => hk (.inl hF)
          · exact .inr hk
          · rcases hgg k hk with h3 | h3
            · exact .inr (h.Gl k h3)
            · exact .inl fun hF => by have := hFlt k hF; omega
      · have hi' : i = st.l.length := by
          have := (List.getElem?_eq_some_iff.1 hm').1
          simp at this; omega
        subst hi'
        rw [List.getElem?_append_right (Nat.le_refl _)] at hm'
        rw [List.getElem?_append_right (by rw [h.mlen]; exact Nat.le_refl _), h.mlen] at hv'
        simp at hm' hv'
        subst hm' hv'
        have hvl := (hC.vtl hvm (by have := hm.len; unfold maxLen; omega)).up hf2 (fun _ h => h.elim)
        refine (hvl.up hf (fun k hk => ?_)).mono (fun k hk => ?_)
        · rcases hk with hk | hk
          · left; rw [hk]; have := hFlt r (h.GF r h.Gr); omega
          · left; have := hFlt k (h.GF k (h.Gl k hk)); omega
        · rcases hk with hk | hk | hk
          · by_cases h5 : k < w1.heap.size
            · exact .inl h5
            · by_cases h6 : k < w3.heap.size
              · exact absurd (.inr ⟨by omega, h6⟩) hk
              · right; omega
          · left; have := hFlt k (h.GF k hk); omega
          · rcases hgg k hk with h3 | h3
            · left; have := hFlt k (h.GF k (h.Gl k h3)); omega
            · right; omega)
    hwf (fun k hk => .inl hk) (fun k hk => by rcases hk with hk | hk; have := hFlt k hk; omega; omega)
  refine ⟨_, _, ⟨_, _, _, _, _, _, hput⟩, fun k hk => ?_, fun k hk => ?_, ?_⟩
  · rcases hk with hk | hk
    · exact .inl hk
    · rcases hgg k hk with h3 | h3
      · exact .inl (h.Gl k h3)
      · exact .inr ⟨by omega, by omega⟩
  · rcases hk with hk | hk
    · exact .inl hk
    · exact .inr ⟨by omega, by omega⟩
  · exact (((hf1.tr hC.fr).tr hf2).none_up (X := G)).trans hf (fun k hk h3 => by
      rcases h3 with h3 | h3 | h3
      · exact h3
      · exact h3 ▸ h.Gr
      · exact h.Gl k h3)
end

set_option maxRecDepth 100000 in
set_option maxHeartbeats 8000000 in
theorem send_any (r nb : Nat) (st : Sy) (c : Nat) (G F X : Nat → Prop) (m : Lt) (v : Value) (w : World) (h : Rm w r nb st c G F) (hm : LWf st.N m) (hv : VtL w v m.vs X) :
    Calls Try.prog 55 #[.pointer (some ⟨r, 0, none⟩), mailV m v] w fun e w' => e = .returned (.tuple #[]) ∧ RmTo w r nb (sendS st m) c G F w' := by
  obtain ⟨i0, hi0, hz0, hz1, hz2⟩ := info_parts mlinfo
  have hx := h
  obtain ⟨sv, lv, cs, nv, mv, Gp, h⟩ := h
  obtain ⟨la, lc, rfl⟩ := own_sl5 h.lrow
  have hl2 := h.wf.len
  have hvl := hv
  obtain ⟨⟨A, vc, rfl, -⟩, -⟩ := hvl
  have hb : ∀ p ∈ m.vs, p.v.length ≤ 1000 := fun p hp => by have := (hm.vs p hp).l; omega
  have hll : m.vs.length ≤ 1000 := by have := hm.len; omega
  have HM := Lib.hid (And.intro hm (And.intro hb hll))
  obtain ⟨w1, hw1⟩ : ∃ w1, w1 = w.alloc (.cells #[.int .i64 m.k, .int .i64 (m.fr : Int), .int .i64 (m.dst : Int), .int .u64 (m.n : Int), .int .i64 m.d, .slice A m.vs.length vc] 68) := ⟨_, rfl⟩
  have hf1 : Fr (fun _ => False) w w1 := by rw [hw1]; exact (Fr.refl _ w).alloc _
  have hM1 : Blk w1 w.heap.size 68 #[.int .i64 m.k, .int .i64 (m.fr : Int), .int .i64 (m.dst : Int), .int .u64 (m.n : Int), .int .i64 m.d, .slice A m.vs.length vc] := by rw [hw1]; exact Blk.new _ _ _
  obtain ⟨bm, hbm⟩ : ∃ b, b = w.heap.size := ⟨_, rfl⟩
  rw [← hbm] at hM1
  have h1 := h.fr hf1 (fun _ _ h => h)
  have r6 : w1.cell? ⟨r, 6, none⟩ = some (.slice la st.l.length lc) := h1.blk.cell 6 rfl
  have hv1 := hv.up hf1 (fun _ h => h.elim)
  have HW1 := Lib.hid (And.intro hw1 hbm)
  have HX := Lib.hid (And.intro h hx)
  clear hw1 hbm hb hll hm hv hx
  simp only [mailV]
  go_enter Try.func55, Try.ntmps55
  go_upto_region 1 with (fail)
  rw [← HW1.out.1, ← HW1.out.2]
  clear HW1
  by_cases hlt : st.l.length < 200
  · have hlt' : (st.l.length : Int) < 200 := by omega
    have m0 := hM1.cell 0 rfl
    have m1 := hM1.cell 1 rfl
    have m2 := hM1.cell 2 rfl
    have m3 := hM1.cell 3 rfl
    have m4 := hM1.cell 4 rfl
    have m5 := hM1.cell 5 rfl
    have hd1 := (Fr.refl (fun _ => False) w1).drew
    have HK := Lib.hid (fun w' (hf : Fr (fun _ => False) w1 w') => And.intro ((h1.fr hf (fun _ _ h => h)).blk.cell 6 rfl) (And.intro ((h1.fr hf (fun _ _ h => h)).blk.frozen 6) (h1.fr hf (fun _ _ h => h)).lrow))
    have HB := Lib.hid (fun w2 w3 (hf2 : Fr (fun _ => False) w1 w2) (hf : Fr (fun k => (Value.slice la st.l.length lc).ownBlock = some k) w2 w3) => (h1.fr hf2 (fun _ _ h => h)).blk.fr hf (fun e => own_blk_ne (h1.fr hf2 (fun _ _ h => h)).lrow (h1.fr hf2 (fun _ _ h => h)).blk (by decide) r e rfl))
    have hvd := hv1.up hd1 (fun _ h => h.elim)
    clear h1 h hM1
    go_upto_region 2 with (fail)
    first
      | go_region_law (first
          | (go_simp
             go_at_call 54
             refine (own_any m _ _ _ hvd HM.out.2.2 HM.out.2.1).mono ?_
             rintro e w2 ⟨va2, vc2, vs2, rfl, hC2⟩
             simp only [mailV]
             have hd2 := hd1.tr hC2.fr
             obtain ⟨e6, ef, hrow2⟩ := HK.out _ hd2
             have e6a := al_cell e6 (.cells #[.int .i64 m.k, .int .i64 (m.fr : Int), .int .i64 (m.dst : Int), .int .u64 (m.n : Int), .int .i64 m.d, .slice va2 m.vs.length vc2] 68))
          | (refine step_append_lies _ (by rfl) _ _ _ (by rfl) 0 68 i0 _ 6 64 Try.underlying82 hi0 hz0 hz1 hz2 rfl (by omega) _ _ _ (by rfl) (own_fr hrow2 ((Fr.refl (fun _ => False) w2).alloc _) (fun _ _ h => h))
               ⟨w2.heap.size, 0, none⟩ 1 1 (mailL m (.slice va2 m.vs.length vc2)) (by rfl) (by rfl) (World.news_of_block (cs := (mailL m (.slice va2 m.vs.length vc2)).toArray) (t := 68) (fr := (0, 0)) (heap_alloc_new w2 _)) (by simp [Value.oneCell', mailL])
               (by omega) (by simp only [maxLen]; omega) (by omega) (by omega) (w2.heap.size + 1) (by simp) ?_
             intro gg lc' w3 hown3 hgrow hat hlt3
             have hf3 : Fr (fun k => (Value.slice la st.l.length lc).ownBlock = some k) w2 w3 := Fr.grown ((Fr.refl (fun k => (Value.slice la st.l.length lc).ownBlock = some k) w2).alloc _) hgrow (fun k hk _ => hk)
             have q1 := (HB.out w2 w3 hd2 hf3).cell 6 rfl
             have q2 := (HB.out w2 w3 hd2 hf3).frozen 6))
      | fail
    all_goals
      clear r6 e6 e6a ef q1 q2 m0 m1 m2 m3 m4 m5
      obtain ⟨h, hx⟩ := HX.out
      obtain ⟨hm, hb, hll⟩ := HM.out
      refine bodyPost_end (results_none rfl _ _ _) rfl ⟨rfl, ?_⟩
      have hap : Appended 0 68 6 (w2.alloc (.cells (mailL m (.slice va2 m.vs.length vc2)).toArray 68)) (Value.slice la st.l.length lc) st.l.length 1 (flatM st.l mv) (mailL m (.slice va2 m.vs.length vc2)) (.slice (some ⟨gg, 0, none⟩) (st.l.length + 1) lc') w3 :=
        ⟨hown3, hgrow, by rcases hat with h | h; exact .inl h.symm; right; rw [h]; simp [Value.ownBlock]⟩
      exact h.sent (hf1.tr hd1) hC2 ((Fr.refl _ w2).alloc _) hap hlt hm hvd.vtm
  · have hlt' : ¬ (st.l.length : Int) < 200 := by omega
    clear h1 h hM1
    go_wp2_with fail
    refine bodyPost_end (results_none rfl _ _ _) rfl ⟨rfl, ?_⟩
    have hst : sendS st m = st := by unfold sendS; rw [if_neg hlt]
    rw [hst]
    exact RmTo.refl HX.out.2 hf1
end Go.Proofs.Ytkpfgoalohbfeaa
