/- What a call of the document's room leaves; a letter sent (printed by gen_src.py). -/
import Derived.Test.YtkpfgoalohbfeaaSRB
namespace Go.Proofs.Ytkpfgoalohbfeaa
open Go.RowKit

/-- What a call leaves that turns a room. -/
def RfTo (w : World) (r nb : Nat) (st' : Sy) (c' : Nat) (G F : Nat → Prop) (w' : World) : Prop :=
  ∃ G' F', Rf w' r nb st' c' G' F' ∧ Nx G G' w w' ∧ Nx F F' w w' ∧ Fr G w w' ∧ ∀ k, F k → F' k
/-- What send leaves. -/
def SentX (w : World) (r nb : Nat) (st : Sy) (c : Nat) (G F : Nat → Prop) (sv lv : Value) (cs : Array Value) (nv : Nat → Rv) (Gp : Nat → Nat → Prop) (m : Lt) (w' : World) : Prop :=
  ∃ lv' mv' G' F', RfX w' r nb (sendS st m) c G' F' sv lv' cs nv mv' Gp ∧ Nx G G' w w' ∧ Nx F F' w w' ∧ (∀ k, F k → F' k) ∧ Fr (fun k => k = r ∨ lv.ownBlock = some k) w w' ∧ ∀ k, lv'.ownBlock = some k → lv.ownBlock = some k ∨ w.heap.size ≤ k
section
variable {w w1 w2 w3 w' : World} {r nb c c' : Nat} {st st' st2 : Sy} {G G' F F' X Y : Nat → Prop} {sv lv lv' v2 : Value} {cs cs' : Array Value} {nv : Nat → Rv} {mv mv' vs : List Value} {Gp : Nat → Nat → Prop}
theorem Rf.lt (h : Rf w r nb st c G F) : ∀ k, F k → k < w.heap.size := by
  obtain ⟨sv, lv, cs, nv, mv, Gp, h⟩ := h
  exact h.lt
theorem Rf.GF (h : Rf w r nb st c G F) : ∀ k, G k → F k := by
  obtain ⟨sv, lv, cs, nv, mv, Gp, h⟩ := h
  exact h.GF
theorem RfTo.refl (h : Rf w r nb st c G F) (hf : Fr (fun _ => False) w w') : RfTo w r nb st c G F w' := ⟨G, F, h.none_ hf, Nx.refl _ _ _, Nx.refl _ _ _, hf.none_up, fun _ h => h⟩
theorem RfTo.after (hf : Fr (fun _ => False) w w1) (h : RfTo w1 r nb st c G F w') : RfTo w r nb st c G F w' := by
  obtain ⟨G', F', h1, h2, h3, h4, h6⟩ := h
  have hs := hf.size
  refine ⟨G', F', h1, fun j hj => ?_, fun j hj => ?_, hf.none_up.tr h4, h6⟩
  · rcases h2 j hj with h5 | h5
    · exact .inl h5
    · exact .inr ⟨by omega, h5.2⟩
  · rcases h3 j hj with h5 | h5
    · exact .inl h5
    · exact .inr ⟨by omega, h5.2⟩
theorem RfX.sent (h : RfX w r nb st c G F sv lv cs nv mv Gp) {m : Lt} (hf1 : Fr (fun _ => False) w w1) (hC : Cpy w1 w2 v2 m.vs vs) {w2a : World} (hf2 : Fr (fun _ => False) w2 w2a)
    (ha : Appended 0 68 6 w2a lv st.l.length 1 (flatM st.l mv) (mailL m v2) lv' w3) (hl : st.l.length < 200) (hm : LWf st.N m) (hvm : ∀ p ∈ m.vs, VtM p) :
    SentX w r nb st c G F sv lv cs nv Gp m (w3.setCell ⟨r, 6, none⟩ lv') := by
  have hs1 := hf1.size
  have hs2 := hC.fr.size
  have hs3 := hf2.size
  have h2 := h.fr ((hf1.tr hC.fr).tr hf2) (fun _ _ h => h)
  have hFlt := h.lt
  have hfg : Fr (fun k => lv.ownBlock = some k) w2a w3 := (Fr.refl _ w2a).grown ha.2.1 (fun k hk _ => hk)
  have hf : Fr (fun k => k = r ∨ lv.ownBlock = some k) w2a (w3.setCell ⟨r, 6, none⟩ lv') := (hfg.mono (fun _ _ h => .inr h)).setCell (p := ⟨r, 6, none⟩) (fun _ => .inl rfl) lv'
  have hs4 := hf.size
  have hsz : (w3.setCell ⟨r, 6, none⟩ lv').heap.size = w3.heap.size := by simp
  have hgg : ∀ k, lv'.ownBlock = some k → lv.ownBlock = some k ∨ (k = w2a.heap.size ∧ k < w3.heap.size) := fun k hk => by
    have h1 := (ha.1.lt k hk).2
    rcases ha.2.2 with h3 | h3
    · rw [h3] at hk; exact .inl hk
    · rw [h3] at hk; injection hk with hk; exact .inr ⟨hk.symm, h1⟩
  have hB : Blk w3 r 97 (rmC st.q sv nb st.N lv) := h2.blk.fr hfg (fun e => own_blk_ne h2.lrow h2.blk (by decide) r e rfl)
  have hr3 := own_fr ha.1 (Fr.set1 w3 r 6 lv') (fun k hk => own_blk_ne ha.1 hB (by decide) k hk)
  have hst : sendS st m = { st with l := st.l ++ [m] } := by unfold sendS; rw [if_pos hl]
  have hwf : SWf { st with l := st.l ++ [m] } := by rw [← hst]; exact h.wf.send hm
  unfold SentX
  rw [hst]
  have hput := h2.putL (l' := st.l ++ [m]) (mv' := mv ++ [v2]) (lv' := lv') (F' := fun k => F k ∨ (w1.heap.size ≤ k ∧ k < w3.heap.size)) hf
    (fun k hk => by rcases hk with hk | hk; exact .inl hk; exact .inr (.inl hk))
    (by simpa [rmC] using hB.set_ 6 lv')
    (by rw [List.length_append, List.length_singleton, flatM_append _ _ _ _ h.mlen, flatM_one']; exact hr3)
    (by simp [h.mlen])
    (fun k hk => by
      rcases hgg k hk with h3 | h3
      · exact .inl h3
      · exact .inr ⟨fun hF => by have := hFlt k hF; omega, .inr ⟨by omega, h3.2⟩⟩)
    (fun i m' v' hm' hv' => by
      by_cases hi : i < st.l.length
      · rw [List.getElem?_append_left hi] at hm'
        rw [List.getElem?_append_left (by rw [h.mlen]; exact hi)] at hv'
        refine ((h2.lval i m' v' hm' hv').up hf (fun k hk => ?_)).mono (fun k hk => ?_)
        · rcases hk with hk | hk
          · exact .inr (hk ▸ h.Gr)
          · exact .inr (h.Gl k hk)
        · rcases hk with hk | hk | hk
          · exact .inl fun hF => hk (.inl hF)
          · exact .inr hk
          · rcases hgg k hk with h3 | h3
            · exact .inr (h.Gl k h3)
            · exact .inl fun hF => by have := hFlt k hF; omega
      · have hi' : i = st.l.length := by
          have := (List.getElem?_eq_some_iff.1 hm').1
          simp at this; omega
        subst hi'
        rw [List.getElem?_append_right (Nat.le_refl _)] at hm'
        rw [List.getElem?_append_right (by rw [h.mlen]; exact Nat.le_refl _), h.mlen] at hv'
        simp at hm' hv'
        subst hm' hv'
        have hvl := (hC.vtl hvm (by have := hm.len; unfold maxLen; omega)).up hf2 (fun _ h => h.elim)
        refine (hvl.up hf (fun k hk => ?_)).mono (fun k hk => ?_)
        · rcases hk with hk | hk
          · left; rw [hk]; have := hFlt r (h.GF r h.Gr); omega
          · left; have := hFlt k (h.GF k (h.Gl k hk)); omega
        · rcases hk with hk | hk | hk
          · by_cases h5 : k < w1.heap.size
            · exact .inl h5
            · by_cases h6 : k < w3.heap.size
              · exact absurd (.inr ⟨by omega, h6⟩) hk
              · right; omega
          · left; have := hFlt k (h.GF k hk); omega
          · rcases hgg k hk with h3 | h3
            · left; have := hFlt k (h.GF k (h.Gl k h3)); omega
            · right; omega)
    hwf (fun k hk => .inl hk) (fun k hk => by rcases hk with hk | hk; have := hFlt k hk; omega; omega)
  refine ⟨_, _, _, _, hput, fun k hk => ?_, fun k hk => ?_, fun k hk => .inl hk, ?_, fun k hk => ?_⟩
  · rcases hk with hk | hk
    · exact .inl hk
    · rcases hgg k hk with h3 | h3
      · exact .inl (h.Gl k h3)
      · exact .inr ⟨by omega, by omega⟩
  · rcases hk with hk | hk
    · exact .inl hk
    · exact .inr ⟨by omega, by omega⟩
  · exact ((hf1.tr hC.fr).tr hf2).none_up.tr hf
  · rcases hgg k hk with h3 | h3
    · exact .inl h3
    · exact .inr (by omega)
theorem SentX.to {m : Lt} (h : RfX w r nb st c G F sv lv cs nv mv Gp) (hs : SentX w r nb st c G F sv lv cs nv Gp m w') : RfTo w r nb (sendS st m) c G F w' := by
  obtain ⟨lv', mv', G', F', h1, h2, h3, h4, h5, _⟩ := hs
  exact ⟨G', F', ⟨_, _, _, _, _, _, h1⟩, h2, h3, h5.mono (fun k _ hk => hk.elim (fun e => e ▸ h.Gr) (h.Gl k)), h4⟩
variable {w2' : World}
theorem RfTo.of (h : RfTo w2 r nb st' c' G' F' w') (hf : Fr G w w2) (hG : Nx G G' w w2) (hF : Nx F F' w w2) (hFF : ∀ k, F k → F' k) : RfTo w r nb st' c' G F w' := by
  obtain ⟨G3, F3, h1, h2, h3, h4, h5⟩ := h
  have hs := hf.size
  have hs2 := h4.size
  exact ⟨G3, F3, h1, hG.tr h2 hs hs2, hF.tr h3 hs hs2, hf.trans h4 (fun k hk hx => hx.elim id (fun hg => (hG k hg).elim id (fun h => by omega))), fun k hk => h5 k (hFF k hk)⟩
theorem RfTo.monoC (h : RfTo w r nb st c G F w') (hc : c ≤ c') : RfTo w r nb st c' G F w' := by
  obtain ⟨G', F', h1, h2⟩ := h
  exact ⟨G', F', h1.mono hc, h2⟩
theorem RfTo.of0 (h : RfTo w2 r nb st c G F w') (hf : Fr (fun _ => False) w w2) : RfTo w r nb st c G F w' := h.of hf.none_up (Nx.refl _ _ _) (Nx.refl _ _ _) (fun _ h => h)
theorem LnAt.same {Gi : Nat → Prop} {x x' : Nd} {s : Value} (h : LnAt w F G Gi x s) (e1 : x'.ln = x.ln) (e2 : x'.p = x.p) : LnAt w F G Gi x' s := by
  unfold LnAt at *
  rw [e1, e2]
  exact h
/-- A node's numbers turned, and its votes. -/
theorem RfX.putS (h : RfX w r nb st c G F sv lv cs nv mv Gp) {i : Nat} (hi : i < st.N) {x' : Nd} {v' : Value} (hf : Fr (fun k => k = nb) w w') (hB : Blk w' nb 104 cs') (hR : NdE cs' st.N i (ndD x' ⟨v', (nv i).p, (nv i).a, (nv i).e⟩) st.nd nv)
    (e1 : VtL w v' (backV x') (Ro F G)) (hz : x'.vt.s = 0 → x'.vt = zeroV) (e2 : x'.val = (st.nd i).val) (e3 : x'.ln = (st.nd i).ln) (e4 : x'.p = (st.nd i).p) (hwf : NWf st.q x') : Rf w' r nb (st.upd i x') c (fun k => G k ∨ Gp i k) F := by
  have hY : ∀ k, k = nb → Ro F G k := fun k hk => .inr (hk ▸ h.Gn)
  have hX : ∀ k, Ro F (fun k => G k ∨ Gp i k) k → Ro F G k := fun k hk => by
    rcases hk with h1 | h1 | h1
    · exact .inl h1
    · exact .inr h1
    · exact .inr (h.Gg i k hi h1)
  obtain ⟨n1, n2, n3⟩ := h.nval i hi
  refine ⟨_, _, _, _, _, _, h.putN hi hf (fun k hk => .inl hk) hB hR (Gi := Gp i) (fun k hk => .inl hk) ?_ hz ?_ ?_ ?_ (Nat.le_refl c) hwf (fun k hk => hk) (fun k hk => by have := h.lt k hk; have := hf.size; omega)⟩
  · exact (e1.up hf hY).mono hX
  · rw [e2]; exact (n2.fr hf hY).up hX
  · refine ((n3.fr hf (fun k h1 h2 h3 => ?_)).up (fun _ h => h) (fun k h1 h2 h3 => h3.elim h2 (fun h4 => h2 (h.Gg i k hi h4)))).same e3 e4
    subst h3
    rcases h2 with h2 | h2
    · exact h2 h.Gn
    · exact (h.dr i hi).2.1 h2
  · rw [e4]; exact (h.prop i hi).fr hf (fun k hk e => (h.dr i hi).2.1 (e ▸ hk))
end

set_option maxRecDepth 100000 in
set_option maxHeartbeats 8000000 in
theorem rsendX_any (r nb : Nat) (st : Sy) (c : Nat) (G F X : Nat → Prop) (sv lv : Value) (cs : Array Value) (nv : Nat → Rv) (mv : List Value) (Gp : Nat → Nat → Prop) (m : Lt) (v : Value) (w : World) (h : RfX w r nb st c G F sv lv cs nv mv Gp) (hm : LWf st.N m) (hv : VtL w v m.vs X) :
    Calls Try.prog 68 #[.pointer (some ⟨r, 0, none⟩), mailV m v] w fun e w' => e = .returned (.tuple #[]) ∧ SentX w r nb st c G F sv lv cs nv Gp m w' := by
  obtain ⟨i0, hi0, hz0, hz1, hz2⟩ := info_parts mlinfo
  obtain ⟨i1, hi1, hy0, hy1, hy2⟩ := info_parts vtinfo
  have hx := h
  obtain ⟨la, lc, rfl⟩ := own_sl5 h.lrow
  have hl2 := h.wf.len
  have hvl := hv
  obtain ⟨⟨A, vc, rfl, hl1⟩, -⟩ := hvl
  have HL := Lib.hid hl1
  have hb : ∀ p ∈ m.vs, p.v.length ≤ 1000 := fun p hp => by have := (hm.vs p hp).l; omega
  have hll : m.vs.length ≤ 1 := hm.len
  have HM := Lib.hid (And.intro hm (And.intro hb hv.vtm))
  obtain ⟨w1, hw1⟩ : ∃ w1, w1 = w.alloc (.cells #[.int .i64 m.k, .int .i64 (m.fr : Int), .int .i64 (m.dst : Int), .int .u64 (m.n : Int), .int .i64 m.d, .slice A m.vs.length vc] 68) := ⟨_, rfl⟩
  have hf1 : Fr (fun _ => False) w w1 := by rw [hw1]; exact (Fr.refl _ w).alloc _
  have hM1 : Blk w1 w.heap.size 68 #[.int .i64 m.k, .int .i64 (m.fr : Int), .int .i64 (m.dst : Int), .int .u64 (m.n : Int), .int .i64 m.d, .slice A m.vs.length vc] := by rw [hw1]; exact Blk.new _ _ _
  obtain ⟨bm, hbm⟩ : ∃ b, b = w.heap.size := ⟨_, rfl⟩
  rw [← hbm] at hM1
  have h1 := h.fr hf1 (fun _ _ h => h)
  have r6 : w1.cell? ⟨r, 6, none⟩ = some (.slice la st.l.length lc) := h1.blk.cell 6 rfl
  have hC1 : Cpy w w1 (.slice none 0 0) [] [] := (Cpy.nil w).up hf1
  have HBM := Lib.hid hbm
  have HW1 := Lib.hid (And.intro hw1 hbm)
  have HX := Lib.hid (And.intro h hx)
  have HF1 := Lib.hid hf1
  clear hw1 hbm hb hm hv hx hl1
  simp only [mailV]
  go_enter Try.func68, Try.ntmps68
  go_upto_region 1 with (fail)
  rw [← HW1.out.1, ← HW1.out.2]
  clear HW1
  by_cases hlt : st.l.length < 200
  · have hlt' : ¬ (200 : Int) ≤ (st.l.length : Int) := by omega
    have HC1 := Lib.hid (And.intro hC1 hM1)
    clear h1 h hC1 hM1 hf1
    go_wp2_with fail
    clear r6
    go_loopg [4, 5] m.vs.length (fun g x4 x5 wr => ∃ (j : Nat) (va : Option Addr) (vc' : Nat) (vs : List Value), j + g = m.vs.length ∧ x5 = .int .i64 j ∧ x4 = .slice va j vc' ∧ Cpy w wr (.slice va j vc') (m.vs.take j) vs ∧
      Blk wr bm 68 #[.int .i64 m.k, .int .i64 (m.fr : Int), .int .i64 (m.dst : Int), .int .u64 (m.n : Int), .int .i64 m.d, .slice A m.vs.length vc])
    case atStart => exact ⟨0, none, 0, [], by omega, rfl, rfl, HC1.out.1, HC1.out.2⟩
    case round =>
      clear HC1
      obtain ⟨j, va, vc', gs, hj, rfl, rfl, hcop, hM⟩ := hrel
      have HJ := Lib.hid hj
      have HCop := Lib.hid hcop
      have HMR := Lib.hid hM
      have m5 := hM.cell 5 rfl
      have hj' : j ≤ m.vs.length := by omega
      have hfrr := hcop.fr
      clear hj hcop
      by_cases hjl : j < m.vs.length
      · obtain ⟨p, hp⟩ : ∃ p, m.vs[j]? = some p := ⟨_, List.getElem?_eq_getElem hjl⟩
        obtain ⟨b, off, s, rfl, -, hat, -⟩ := HL.out j p hp
        have hpl := HM.out.2.1 p (List.mem_of_getElem? hp)
        have hby := hat.by_.fr hfrr (fun _ _ h => h)
        have hbyw := hat.by_
        obtain ⟨sa, sc, rfl, -, -⟩ := hbyw
        have q0 := hfrr.cell hat.c0 (fun h => h)
        have q1 := hfrr.cell hat.c1 (fun h => h)
        have q2 := hfrr.cell hat.c2 (fun h => h)
        have q3 := hfrr.cell hat.c3 (fun h => h)
        have HP := Lib.hid hp
        obtain ⟨w4, hw4⟩ : ∃ w4, w4 = wr.alloc (.cells #[.int .u64 p.s, .int .u64 p.n, .int .i64 p.d, .slice sa p.v.length sc] 46) := ⟨_, rfl⟩
        have hf4 : Fr (fun _ => False) wr w4 := by rw [hw4]; exact (Fr.refl _ wr).alloc _
        obtain ⟨bv, hbv⟩ : ∃ b, b = wr.heap.size := ⟨_, rfl⟩
        have hV4 : Blk w4 bv 46 #[.int .u64 p.s, .int .u64 p.n, .int .i64 p.d, .slice sa p.v.length sc] := by rw [hw4, hbv]; exact Blk.new _ _ _
        have hby4 := hby.fr hf4 (fun _ _ h => h)
        have hC4 := HCop.out.up hf4
        have hM4 := HMR.out.fr hf4 (fun h => h)
        have hbvne : ∀ k, (Value.slice va j vc').ownBlock = some k → k ≠ bv := fun k hk => by
          have := own_lt (own_base HCop.out.row) (k := k) hk
          omega
        have hbv3 : w.heap.size ≤ bv := by rw [hbv]; exact HCop.out.fr.size
        have hbmv : bm ≠ bv := by have := HMR.out.lt; omega
        have HW4 := Lib.hid hw4
        have HBV := Lib.hid hbv
        have HNe := Lib.hid (And.intro hbvne (And.intro hbv3 hbmv))
        have hj0 : (0 : Int) ≤ (j : Int) := by omega
        have hj1 : (j : Int) < (m.vs.length : Int) := by omega
        have HCp := Lib.hid (lcopy_any (.slice sa p.v.length sc) p.v w4 hby4 (by omega))
        clear hat hp hw4 hf4 hbv hby hbvne hbv3 hbmv hby4
        go_upto_region 7 with (fail)
        rw [← HW4.out, ← HBV.out]
        clear HW4 HBV q0 q1 q2 q3 m5
        have v3 := hV4.cell 3 rfl
        go_wp2_with fail
        refine HCp.out.mono ?_
        rintro e w5 ⟨xa, xc, rfl, ho5, hf5⟩
        have hV5 := hV4.fr hf5 (fun h => h)
        have hC5 := hC4.up hf5
        have hM5 := hM4.fr hf5 (fun h => h)
        have ho5 := own_up (base := w.heap.size) (own_base ho5) (fun k hk => by have := (ho5.lt k hk).1; have := hC4.fr.size; omega)
        obtain ⟨w6, hw6⟩ : ∃ w6, w6 = w5.setCell ⟨bv, 3, none⟩ (.slice xa p.v.length xc) := ⟨_, rfl⟩
        have hV6 : Blk w6 bv 46 #[.int .u64 p.s, .int .u64 p.n, .int .i64 p.d, .slice xa p.v.length xc] := by rw [hw6]; simpa using hV5.set_ 3 (.slice xa p.v.length xc)
        have hC6 : Cpy w w6 (.slice va j vc') (m.vs.take j) gs := by rw [hw6]; exact hC5.put1 hV5 HNe.out.2.1 (by decide) HNe.out.1
        have ho6 : w6.ownsRow w.heap.size 5 1 (.slice xa p.v.length xc) p.v.length (u8s p.v) := by
          rw [hw6]
          exact own_fr ho5 (Fr.set1 w5 bv 3 _) (fun k hk => own_blk_ne ho5 hV5 (by decide) k hk)
        have hM6 := hM5.fr (Fr.set1 w5 bv 3 (.slice xa p.v.length xc)) HNe.out.2.2
        rw [← hw6] at hM6
        have vf := hV5.frozen 3
        have v3' := hV5.cell 3 rfl
        have HW6 := Lib.hid hw6
        have HS6 := Lib.hid (And.intro hV6 (And.intro hC6 (And.intro ho6 hM6)))
        clear v3 hV4 hC4 hf5 hM4 hw6 hV5 hC5 ho5 hM5 hV6 hC6 ho6 hM6 HCp
        go_upto_region 8 with (fail)
        rw [← HW6.out]
        clear HW6 vf v3'
        have v0 := HS6.out.1.cell 0 rfl
        have v1 := HS6.out.1.cell 1 rfl
        have v2 := HS6.out.1.cell 2 rfl
        have v3 := HS6.out.1.cell 3 rfl
        obtain ⟨w7, hw7⟩ : ∃ w7, w7 = w6.alloc (.cells #[.int .u64 p.s, .int .u64 p.n, .int .i64 p.d, .slice xa p.v.length xc] 46) := ⟨_, rfl⟩
        have hf7 : Fr (fun _ => False) w6 w7 := by rw [hw7]; exact (Fr.refl _ w6).alloc _
        have hC7 := HS6.out.2.1.up hf7
        have ho7 := own_fr HS6.out.2.2.1 hf7 (fun _ _ h => h)
        have hM7 := HS6.out.2.2.2.fr hf7 (fun h => h)
        have hn7 : ∀ i u, [Value.int .u64 p.s, .int .u64 p.n, .int .i64 p.d, .slice xa p.v.length xc][i]? = some u → w7.cell? (Addr.add ⟨w6.heap.size, 0, none⟩ i) = some u := by
          rw [hw7]; exact World.news_of_block (cs := #[.int .u64 p.s, .int .u64 p.n, .int .i64 p.d, .slice xa p.v.length xc]) (t := 46) (fr := (0, 0)) (heap_alloc_new w6 _)
        have hrow := hC7.row
        have htl : (m.vs.take j).length = j := by simp; omega
        rw [htl] at hrow
        have hz7 := hC7.fr.size
        have HW7 := Lib.hid hw7
        have HC7 := Lib.hid (And.intro hC7 (And.intro ho7 (And.intro htl hM7)))
        have hrm : ∀ k, (Value.slice va j vc').ownBlock = some k → k ≠ bm := fun k hk => own_blk_ne hrow hM7 (by decide) k hk
        have HRM := Lib.hid hrm
        clear hw7 hf7 hC7 ho7 htl hM7 hrm HS6
        go_wp2_with (first
          | (at_builtin
             rw [← HW7.out]
             clear HW7
             refine wpList_bi2 rfl .append _ _ _ _ _ rfl rfl rfl _ (ap_cells (base := w.heap.size) Try.underlying51 hi1 hy0 hy1 hy2 rfl (by omega) hrow ⟨w6.heap.size, 0, none⟩ 1 1 [.int .u64 p.s, .int .u64 p.n, .int .i64 p.d, .slice xa p.v.length xc] rfl hn7 (by simp [Value.oneCell']) (by unfold maxLen; omega) (by omega) hz7) ?_
             rintro v' w8 hap
             obtain ⟨va8, vc8, rfl⟩ := own_sl5 hap.1))
        go_roundg (m.vs.length - (j + 1))
        case measure => have := HJ.out; omega
        case rel =>
          obtain ⟨hC7, ho7, htl, hM7⟩ := HC7.out
          have hfa : Fr (fun k => (Value.slice va j vc').ownBlock = some k) w7 w8 := (Fr.refl _ w7).grown hap.2.1 (fun k hk _ => hk)
          refine ⟨j + 1, va8, vc8, gs ++ [.slice xa p.v.length xc], by have := HJ.out; omega, by go_num, rfl, ?_, hM7.fr hfa (fun e => HRM.out bm e rfl)⟩
          have := hC7.more ho7 (by rw [htl]; exact hap)
          rwa [show m.vs.take j ++ [p] = m.vs.take (j + 1) by rw [List.take_add_one, HP.out]; rfl] at this
      · obtain rfl : j = m.vs.length := by omega
        have hC := HCop.out
        rw [List.take_length] at hC
        have mf := hM.frozen 5
        clear HCop hfrr
        obtain ⟨w8, hw8⟩ : ∃ w8, w8 = wr.setCell ⟨bm, 5, none⟩ (.slice va m.vs.length vc') := ⟨_, rfl⟩
        have hM8 : Blk w8 bm 68 #[.int .i64 m.k, .int .i64 (m.fr : Int), .int .i64 (m.dst : Int), .int .u64 (m.n : Int), .int .i64 m.d, .slice va m.vs.length vc'] := by rw [hw8]; simpa using hM.set_ 5 (.slice va m.vs.length vc')
        have hf8 : Fr (fun k => k = bm) wr w8 := by rw [hw8]; exact Fr.set1 _ _ _ _
        have hC8 : Cpy w w8 (.slice va m.vs.length vc') m.vs gs := hC.off hf8 (fun k hk => by subst hk; exact ⟨by have := HBM.out; omega, _, _, hM, by decide, by decide⟩)
        have HW8 := Lib.hid hw8
        have h8 := HX.out.1.fr hC8.fr (fun _ _ h => h)
        have HK := Lib.hid (fun w' (hf : Fr (fun _ => False) w8 w') => And.intro ((h8.fr hf (fun _ _ h => h)).blk.cell 6 rfl) (And.intro ((h8.fr hf (fun _ _ h => h)).blk.frozen 6) (h8.fr hf (fun _ _ h => h)).lrow))
        have HB := Lib.hid (fun w2 w3 (hf2 : Fr (fun _ => False) w8 w2) (hf : Fr (fun k => (Value.slice la st.l.length lc).ownBlock = some k) w2 w3) => (h8.fr hf2 (fun _ _ h => h)).blk.fr hf (fun e => own_blk_ne (h8.fr hf2 (fun _ _ h => h)).lrow (h8.fr hf2 (fun _ _ h => h)).blk (by decide) r e rfl))
        have HC8 := Lib.hid (And.intro hC8 h8)
        clear hw8 hC hM hf8 hC8 h8 hlt'
        go_upto_region 10 with (fail)
        rw [← HW8.out]
        clear HW8 m5 mf
        have m0 := hM8.cell 0 rfl
        have m1 := hM8.cell 1 rfl
        have m2 := hM8.cell 2 rfl
        have m3 := hM8.cell 3 rfl
        have m4 := hM8.cell 4 rfl
        have m5 := hM8.cell 5 rfl
        have r6 : w8.cell? ⟨r, 6, none⟩ = some (.slice la st.l.length lc) := HC8.out.2.blk.cell 6 rfl
        have hd8 := (Fr.refl (fun _ => False) w8).drew
        obtain ⟨e6, ef, hrow2⟩ := HK.out _ hd8
        have e6a := al_cell e6 (.cells #[.int .i64 m.k, .int .i64 (m.fr : Int), .int .i64 (m.dst : Int), .int .u64 (m.n : Int), .int .i64 m.d, .slice va m.vs.length vc'] 68)
        have e6b := al_cell r6 (.cells #[.int .i64 m.k, .int .i64 (m.fr : Int), .int .i64 (m.dst : Int), .int .u64 (m.n : Int), .int .i64 m.d, .slice va m.vs.length vc'] 68)
        have HHx := Lib.hid hd8
        first
          | go_region_law (
               refine step_append_lies _ (by rfl) _ _ _ (by rfl) 0 68 i0 _ 6 64 Try.underlying82 hi0 hz0 hz1 hz2 rfl (by omega) _ _ _ (by rfl) (own_fr hrow2 ((Fr.refl (fun _ => False) w8.drew).alloc _) (fun _ _ h => h))
                 ⟨w8.drew.heap.size, 0, none⟩ 1 1 (mailL m (.slice va m.vs.length vc')) (by rfl) (by rfl) (World.news_of_block (cs := (mailL m (.slice va m.vs.length vc')).toArray) (t := 68) (fr := (0, 0)) (heap_alloc_new w8.drew _)) (by simp [Value.oneCell', mailL])
                 (by omega) (by simp only [maxLen]; omega) (by omega) (by omega) (w8.drew.heap.size + 1) (by simp) ?_
               intro gg lc' w3 hown3 hgrow hat hlt3
               have hf3 : Fr (fun k => (Value.slice la st.l.length lc).ownBlock = some k) w8.drew w3 := Fr.grown ((Fr.refl (fun k => (Value.slice la st.l.length lc).ownBlock = some k) w8.drew).alloc _) hgrow (fun k hk _ => hk)
               have q1 := (HB.out w8.drew w3 hd8 hf3).cell 6 rfl
               have q2 := (HB.out w8.drew w3 hd8 hf3).frozen 6)
          | fail
        all_goals
          clear r6 e6 e6a e6b ef q1 q2 m0 m1 m2 m3 m4 m5
          obtain ⟨hm, hb, hvm⟩ := HM.out
          refine bodyPost_end (results_none rfl _ _ _) rfl ⟨rfl, ?_⟩
          have hap : Appended 0 68 6 (w8.drew.alloc (.cells (mailL m (.slice va m.vs.length vc')).toArray 68)) (Value.slice la st.l.length lc) st.l.length 1 (flatM st.l mv) (mailL m (.slice va m.vs.length vc')) (.slice (some ⟨gg, 0, none⟩) (st.l.length + 1) lc') w3 :=
            ⟨hown3, hgrow, by rcases hat with h | h; exact .inl h.symm; right; rw [h]; simp [Value.ownBlock]⟩
          exact HX.out.1.sent (Fr.refl _ w) (HC8.out.1.up HHx.out) ((Fr.refl _ w8.drew).alloc _) hap hlt hm hvm
  · have hlt' : (200 : Int) ≤ (st.l.length : Int) := by omega
    clear h1 h hM1 hC1 hf1
    go_wp2_with fail
    refine bodyPost_ret (results_none rfl _ _ _) rfl ⟨rfl, ?_⟩
    have hst : sendS st m = st := by unfold sendS; rw [if_neg hlt]
    unfold SentX
    rw [hst]
    exact ⟨_, _, _, _, HX.out.2.fr HF1.out (fun _ _ h => h), Nx.refl _ _ _, Nx.refl _ _ _, fun _ h => h, HF1.out.none_up, fun k hk => .inl hk⟩
theorem rsend_any (r nb : Nat) (st : Sy) (c : Nat) (G F X : Nat → Prop) (m : Lt) (v : Value) (w : World) (h : Rf w r nb st c G F) (hm : LWf st.N m) (hv : VtL w v m.vs X) :
    Calls Try.prog 68 #[.pointer (some ⟨r, 0, none⟩), mailV m v] w fun e w' => e = .returned (.tuple #[]) ∧ RfTo w r nb (sendS st m) c G F w' := by
  obtain ⟨sv, lv, cs, nv, mv, Gp, h⟩ := h
  exact (rsendX_any r nb st c G F X sv lv cs nv mv Gp m v w h hm hv).mono fun e w' ⟨he, hs⟩ => ⟨he, hs.to h⟩
end Go.Proofs.Ytkpfgoalohbfeaa
