/- second, fourth of the document's room (printed by gen_srf.py). -/
import Derived.Test.YtkpfgoalohbfeaaSRE
namespace Go.Proofs.Ytkpfgoalohbfeaa
open Go.RowKit

/-- What Chosen tells, and where it lies. -/
def ResR2 (F : Nat → Prop) (w w' : World) (x : Option (List UInt8)) (e : Ending) : Prop :=
  ∃ va vc, e = .returned (.tuple #[.slice va (x.getD []).length vc, .bool x.isSome]) ∧ Byt w' (.slice va (x.getD []).length vc) (x.getD []) ∧ Fr (fun _ => False) w w' ∧ ∀ k, (Value.slice va (x.getD []).length vc).ownBlock = some k → x.getD [] ≠ [] → F k
set_option maxRecDepth 100000 in
set_option maxHeartbeats 4000000 in
theorem rchosen2_any (r : Nat) (st : Rs) (F : Nat → Prop) (k : Nat) (w : World) (h : RR w r st F) :
    Calls Try.prog 89 #[.pointer (some ⟨r, 0, none⟩), .int .u64 k] w fun e w' => ResR2 F w w' (rchB st k) e := by
  have hwf := h.wf
  have HF := Lib.hid (rfind_any r st F k w h)
  obtain ⟨sv, lv, sl, ml, tv, svs, h⟩ := h
  obtain ⟨sa, sc, rfl⟩ := own_sl4 h.site
  obtain ⟨ma, mc, rfl⟩ := own_sl4 h.mark
  obtain ⟨pa, pc, rfl⟩ := own_sl4 h.slot
  have HI := Lib.hid (fun X hX => ris_any st.q true (.slice sa st.q.s.length sc) X hX w (ints_own h.site) hwf.ql)
  have hl := h.r_lt
  have hn12 := hwf.ok.n
  unfold maxLen at hl
  obtain ⟨hl1, hl2, hl3⟩ := hl
  have HX := Lib.hid h
  have HW := Lib.hid hwf
  have HN := Lib.hid hn12
  have c10 : w.cell? ⟨r, 10, none⟩ = some (.slice ma st.M.length mc) := h.blk.cell 10 rfl
  clear h hwf hn12
  go_enter Try.func89, Try.ntmps89
  go_wp2_with fail
  go_loopg [6, 7] st.M.length (fun g x6 x7 wr => ∃ (j X : Nat), j + g = st.M.length ∧ x7 = .int .i64 j ∧ x6 = .int .u32 X ∧ X < 4096 ∧ (∀ i, X.testBit i = markBit (st.M.take j) k i) ∧ SameW w wr)
  case atStart => exact ⟨0, 0, by omega, rfl, rfl, by omega, fun i => by simp [markBit], rfl⟩
  case round =>
    obtain ⟨j, X, hj, rfl, rfl, hX, hbit, rfl⟩ := hrel
    have HJ := Lib.hid hj
    have HB := Lib.hid hbit
    have hj' : j ≤ st.M.length := by omega
    clear hj hbit
    by_cases hlt : j < st.M.length
    · obtain ⟨m, hm⟩ : ∃ m, st.M[j]? = some m := ⟨_, List.getElem?_eq_getElem hlt⟩
      obtain ⟨g, lc', e1, q0, q1⟩ := HX.out.mark_at hm
      injection e1 with e1 _ e2
      subst e1 e2
      have hm12 : m.1 < 12 := by have := (HW.out.mks m (List.mem_of_getElem? hm)).1; have := HN.out; omega
      have hm0 : (0 : Int) ≤ (m.1 : Int) := by omega
      have HM := Lib.hid hm
      clear hm
      by_cases hk : m.2 = k
      · have hk' : ((m.2 : Int) == (k : Int)) = true := by simp [hk]
        have HK := Lib.hid hk
        obtain ⟨Y, hY⟩ : ∃ Y, Y = X ||| 2 ^ m.1 := ⟨_, rfl⟩
        have hY12 : Y < 4096 := by rw [hY]; exact or_lt X m.1 hX hm12
        have HY := Lib.hid hY
        clear hk hY
        go_wp2_with fail
        rw [or_bit X m.1 hX hm12, ← HY.out]
        go_roundg (st.M.length - (j + 1))
        case measure => have := HJ.out; omega
        case rel =>
          refine ⟨j + 1, Y, by have := HJ.out; omega, by go_num, rfl, hY12, fun i => ?_, rfl⟩
          rw [HY.out, Nat.testBit_or, HB.out, markBit_take HM.out, Nat.testBit_two_pow, HK.out]
          simp
          rfl
      · have hk' : ((m.2 : Int) == (k : Int)) = false := by simp; omega
        have HK := Lib.hid hk
        clear hk
        go_wp2_with fail
        go_roundg (st.M.length - (j + 1))
        case measure => have := HJ.out; omega
        case rel =>
          refine ⟨j + 1, X, by have := HJ.out; omega, by go_num, rfl, hX, fun i => ?_, rfl⟩
          have : (m.2 == k) = false := by simpa using HK.out
          rw [HB.out, markBit_take HM.out, this]
          simp
    · obtain rfl : j = st.M.length := by omega
      go_wp2_with fail
      refine HF.out.mono ?_
      rintro e w1 ⟨⟨z, hz, rfl⟩, rfl⟩
      have hz' := hz.is HW.out
      have HZ := Lib.hid hz'
      clear hz hz' c10
      have c0 : w.cell? ⟨r, 0, none⟩ = some (.int .i64 st.q.k) := HX.out.blk.cell 0 rfl
      have c1 : w.cell? ⟨r, 1, none⟩ = some (.int .i64 st.q.n) := HX.out.blk.cell 1 rfl
      have c2 : w.cell? ⟨r, 2, none⟩ = some (.int .i64 st.q.o) := HX.out.blk.cell 2 rfl
      have c3 : w.cell? ⟨r, 3, none⟩ = some (.int .i64 st.q.t) := HX.out.blk.cell 3 rfl
      have c4 : w.cell? ⟨r, 4, none⟩ = some (.slice sa st.q.s.length sc) := HX.out.blk.cell 4 rfl
      go_wp2_with fail
      refine (HI.out X (by omega)).mono ?_
      rintro e w1 ⟨rfl, hf1⟩
      have he : isQ st.q true X.testBit = isQ st.q true (markBit st.M k) := isQ_congr fun i _ => by rw [HB.out, List.take_length]
      rw [he]
      clear he c0 c1 c2 c3 c4
      have hcb : rchB st k = (findV st.S k).bind fun v => if isQ st.q true (markBit st.M k) then some v.v else none := rfl
      have HC := Lib.hid hcb
      clear hcb
      rcases HZ.out with ⟨rfl, hf⟩ | ⟨i, v, rfl, hv, hvk, hf⟩
      · have hr : rchB st k = none := by rw [HC.out, hf]; rfl
        have HRr := Lib.hid hr
        clear hr hf
        go_wp2_with fail
        go_ret2
        rw [HRr.out]
        exact ⟨none, 0, rfl, byt_nil _, hf1, fun k hk => by simp [Value.ownBlock] at hk⟩
      · obtain ⟨g, lc', s, e1, -, -, -, q3, hby, hoff⟩ := HX.out.slot_at hv
        injection e1 with e1 _ e2
        subst e1 e2
        have c9 : w1.cell? ⟨r, 9, none⟩ = some (.slice (some ⟨g, 0, none⟩) st.S.length pc) := hf1.cell (HX.out.blk.cell 9 rfl) (fun h => h)
        have p3 := hf1.cell q3 (fun h => h)
        have hby1 := hby.fr hf1 (fun _ _ h => h)
        obtain ⟨va, vc, rfl, -, -⟩ := hby
        have HOff := Lib.hid hoff
        clear hoff
        have hil : (i : Int) < (st.S.length : Int) := by have := (List.getElem?_eq_some_iff.1 hv).1; omega
        have hi0 : ¬ (i : Int) < 0 := by omega
        have hi0' : (0 : Int) ≤ (i : Int) := by omega
        cases hq : isQ st.q true (markBit st.M k) with
        | false =>
          have hr : rchB st k = none := by rw [HC.out, hf, hq]; rfl
          have HRr := Lib.hid hr
          clear hr hf hq hv hvk q3
          go_wp2_with fail
          go_ret2
          rw [HRr.out]
          exact ⟨none, 0, rfl, byt_nil _, hf1, fun k hk => by simp [Value.ownBlock] at hk⟩
        | true =>
          have hr : rchB st k = some v.v := by rw [HC.out, hf, hq]; rfl
          have HRr := Lib.hid hr
          clear hr hf hq hv hvk q3
          go_wp2_with fail
          go_ret2
          rw [HRr.out]
          exact ⟨va, vc, rfl, hby1, hf1, fun k hk hne => Classical.byContradiction fun hF => HOff.out k hk hne (.inl hF)⟩
theorem raccS_len' (st : Rs) (x : Int) (k : Nat) : (raccS st x k).M.length ≤ st.M.length + 1 ∧ (raccS st x k).S = st.S := by
  unfold raccS
  split
  · exact ⟨by simp, rfl⟩
  · exact ⟨by omega, rfl⟩
theorem rprmS_len' (st : Rs) (x : Int) (l : List Vt) : (rprmS st x l).M = st.M ∧ (rprmS st x l).S = st.S := by
  unfold rprmS
  split <;> exact ⟨rfl, rfl⟩
theorem rproS_len' (st : Rs) (k : Nat) (own : List UInt8) (o : Option (Vt × Nat)) : (rproS st k own o).M = st.M ∧ (rproS st k own o).S.length ≤ st.S.length + 1 := by
  unfold rproS
  split
  · split
    · exact ⟨rfl, by omega⟩
    · exact ⟨rfl, by simp⟩
  · exact ⟨rfl, by omega⟩
theorem chB_acc {p : Ps} {x : Int} {u : List UInt8} (h : chB p 1 = some u) : chB (accP p x 1) 1 = some u := by
  unfold chB at h ⊢
  cases hs : p.sl 1 with
  | none => rw [hs] at h; cases h
  | some y =>
    obtain ⟨V, X⟩ := y
    obtain ⟨Y, h1, h2⟩ := accP_sl (x := x) (k := 1) hs
    rw [hs] at h
    have h : (if isQ p.q true X.testBit = true then some V.v else none) = some u := h
    rw [h1]
    show (if isQ (accP p x 1).q true Y.testBit = true then some V.v else none) = some u
    split at h
    · rename_i hq
      rw [accP_q, if_pos (isQ_mono (fun i _ hi => h2 i hi) hq)]
      exact h
    · cases h
section
variable {w w' w2 : World} {r nb c c' : Nat} {st : Sy} {G F F' : Nat → Prop} {sv lv : Value} {cs cs' : Array Value} {nv : Nat → Rv} {mv : List Value} {Gp : Nat → Nat → Prop}
/-- A node's proposer turned, that has chosen nothing. -/
theorem RfX.putP (h : RfX w r nb st c G F sv lv cs nv mv Gp) {i : Nat} (hi : i < st.N) {p p' : Ps} {ri : Nat} {rs' : Rs} (hp : (st.nd i).p = some p) (hy : (nv i).p = .pointer (some ⟨ri, 0, none⟩)) {Gi : Nat → Prop} (hR : RR w' ri rs' Gi) (hrel : Rel p' rs')
    (hS : rs'.S.length ≤ c') (hM : rs'.M.length ≤ c') (hrd : p'.sl 1 ≠ none → readyB p' = true) (hc : c ≤ c') (hn : Nx (Gp i) Gi w w') (hf : Fr (Gp i) w w')
    (h1 : p'.q = p.q) (h2 : p'.n = p.n ∧ p'.d = p.d) (h3 : p'.f = p.f) (hln : chB p 1 = none ∨ readyB p = false) (hF : ∀ k, F' k ↔ F k ∨ Gi k) (hlt : ∀ k, Gi k → k < w'.heap.size) :
    RfX w' r nb (st.upd i { st.nd i with p := some p' }) c' (fun k => G k ∨ Gi k) F' sv lv cs (fun a => if a = i then nv i else nv a) mv (fun a => if a = i then Gi else Gp a) := by
  have hlt0 := h.lt
  have hYR : ∀ k, Gp i k → Ro F G k := fun k hk => .inr (h.Gg i k hi hk)
  have hs := hf.size
  have hGi : ∀ k, Gi k → Gp i k ∨ (¬ F k ∧ F' k) := fun k hk => by
    rcases hn k hk with h4 | h4
    · exact .inl h4
    · exact .inr ⟨fun h5 => by have := hlt0 k h5; omega, (hF k).2 (.inr hk)⟩
  have hX : ∀ k, Ro F' (fun k => G k ∨ Gi k) k → Ro F G k := fun k hk => by
    rcases hk with h1 | h1 | h1
    · exact .inl fun h2 => h1 ((hF k).2 (.inl h2))
    · exact .inr h1
    · rcases hGi k h1 with h2 | h2
      · exact .inr (h.Gg i k hi h2)
      · exact .inl h2.1
  obtain ⟨n1, n2, n3⟩ := h.nval i hi
  have hnG : ∀ k, (nv i).e.ownBlock = some k → (st.nd i).ln ≠ [] → F k ∧ ¬ G k := fun k hk hne => by
    obtain ⟨a1, a2⟩ := n3.2 k hk hne
    refine ⟨a1, a2.elim id fun ⟨_, p0, a3, a4, a5⟩ => ?_⟩
    rw [hp] at a3
    injection a3 with a3
    subst a3
    rcases hln with h | h
    · rw [h] at a4; cases a4
    · rw [h] at a5; cases a5
  have hnb : ¬ Gp i nb := (h.dr i hi).2.1
  refine h.putN hi (x' := { st.nd i with p := some p' }) (y' := nv i) hf (fun k hk => .inr (.inl hk)) (h.nblk.fr hf hnb) ?_ hGi ((n1.up hf hYR).mono hX) (h.z0 i hi) ((n2.fr hf hYR).up hX) ?_ (.inr ⟨p', ri, rs', rfl, hy, hR, hrel, hS, hM, hrd⟩) hc ((h.wf.nd i hi).setP hp h1 h2 h3) (fun k hk => (hF k).2 (.inl hk)) (fun k hk => ?_)
  · exact h.ndr hi
  · refine ⟨n3.1.fr' hf fun k hk hne hx => (hnG k hk hne).2 (h.Gg i k hi hx), fun k hk hne => ?_⟩
    obtain ⟨a1, a2⟩ := hnG k hk hne
    refine ⟨(hF k).2 (.inl a1), .inl fun h4 => h4.elim a2 fun h5 => ?_⟩
    rcases hGi k h5 with h6 | h6
    · exact a2 (h.Gg i k hi h6)
    · exact h6.1 a1
  · rcases (hF k).1 hk with h4 | h4
    · have := hlt0 k h4; omega
    · exact hlt k h4
end

set_option maxRecDepth 100000 in
set_option maxHeartbeats 16000000 in
theorem rfourth_any (r nb : Nat) (st : Sy) (c : Nat) (G F : Nat → Prop) (m : Lt) (A : Option Addr) (vc : Nat) (w : World) (h : Rf w r nb st c G F) (hm : LWf st.N m) (hc : c + 10 ≤ 1000000) :
    Calls Try.prog 80 #[.pointer (some ⟨r, 0, none⟩), mailV m (.slice A m.vs.length vc)] w fun e w' => e = .returned (.tuple #[]) ∧ RfTo w r nb (acdS st m) (c + 1) G F w' := by
  have hx0 := h
  obtain ⟨sv, lv, cs, nv, mv, Gp, h⟩ := h
  have hi := hm.dst
  have hN := h.wf.n12
  have hwn := h.wf.nd m.dst hi
  obtain ⟨w1, hw1⟩ : ∃ w1, w1 = w.alloc (.cells #[.int .i64 m.k, .int .i64 (m.fr : Int), .int .i64 (m.dst : Int), .int .u64 (m.n : Int), .int .i64 m.d, .slice A m.vs.length vc] 68) := ⟨_, rfl⟩
  have hf1 : Fr (fun _ => False) w w1 := by rw [hw1]; exact (Fr.refl _ w).alloc _
  have hM1 : Blk w1 w.heap.size 68 #[.int .i64 m.k, .int .i64 (m.fr : Int), .int .i64 (m.dst : Int), .int .u64 (m.n : Int), .int .i64 m.d, .slice A m.vs.length vc] := by rw [hw1]; exact Blk.new _ _ _
  obtain ⟨bm, hbm⟩ : ∃ b, b = w.heap.size := ⟨_, rfl⟩
  rw [← hbm] at hM1
  have HMi := Lib.hid (rmine_any r nb st c G F m A vc w1 (hx0.none_ hf1) hm)
  have HW1 := Lib.hid (And.intro hw1 hbm)
  have HH := Lib.hid (And.intro h (And.intro hm (And.intro hf1 hx0)))
  have m0 := hM1.cell 0 rfl
  have m1 := hM1.cell 1 rfl
  have m2 := hM1.cell 2 rfl
  have m3 := hM1.cell 3 rfl
  have m4 := hM1.cell 4 rfl
  have m5 := hM1.cell 5 rfl
  have hi0 : (0 : Int) ≤ (m.dst : Int) := by omega
  have hi1 : (m.dst : Int) < (st.N : Int) := by omega
  simp only [mailV] at HMi ⊢
  clear hw1 hbm h hf1 hm hN hx0
  go_enter Try.func80, Try.ntmps80
  go_upto_region 1 with (fail)
  rw [← HW1.out.1, ← HW1.out.2]
  go_wp2_with fail
  refine HMi.out.mono ?_
  rintro e w2 ⟨rfl, hf2⟩
  have hM2 := hM1.fr hf2 (fun h => h)
  clear m0 m1 m2 m3 m4 m5 hM1 HMi
  cases hmine : mineB (st.nd m.dst) m with
  | false =>
    have HMn := Lib.hid (And.intro hmine hf2)
    clear hmine hf2 hwn
    go_wp2_with fail
    refine bodyPost_ret (results_none rfl _ _ _) rfl ⟨rfl, ?_⟩
    have hst : acdS st m = st := by
      unfold acdS
      have h1 := HMn.out.1
      unfold mineB at h1
      cases hp : (st.nd m.dst).p with
      | none => rfl
      | some p =>
        rw [hp] at h1
        simp only [Option.isSome_some, Bool.true_and] at h1
        simp only
        rw [if_neg (by rw [h1]; simp)]
    rw [hst]
    exact RfTo.refl (HH.out.2.2.2.mono (Nat.le_succ c)) (HH.out.2.2.1.tr HMn.out.2)
  | true =>
    have hf12 := HH.out.2.2.1.tr hf2
    have h2 := HH.out.1.fr hf12 (fun _ _ h => h)
    have hR2 := h2.ndr hi
    obtain ⟨p, hp⟩ : ∃ p, (st.nd m.dst).p = some p := by
      unfold mineB at hmine
      cases hp : (st.nd m.dst).p with
      | none => rw [hp] at hmine; cases hmine
      | some p => exact ⟨p, rfl⟩
    have hsame : sameB (st.nd m.dst) m = true := by
      unfold mineB at hmine
      rw [Bool.and_eq_true] at hmine
      exact hmine.2
    obtain ⟨w1', w2', w3', w4'⟩ := hwn.p p hp
    rcases h2.prop m.dst hi with ⟨hn, -⟩ | ⟨p', ri, rs, hp', hy, hRR, hrel, hS, hMl, hrd⟩
    · rw [hp] at hn; cases hn
    obtain rfl : p = p' := by rw [hp] at hp'; injection hp'
    have r5 : w2.cell? ⟨r, 5, none⟩ = some (.slice (some ⟨nb, 0, none⟩) st.N st.N) := h2.blk.cell 5 rfl
    have n4 : w2.cell? ⟨nb, m.dst * 8 + 4, none⟩ = some (.pointer (some ⟨ri, 0, none⟩)) := by rw [← hy]; exact hR2.cell h2.nblk (j := 4) rfl
    have m2 := hM2.cell 2 rfl
    have HP := Lib.hid (And.intro hp (And.intro hy (And.intro hRR (And.intro hrel (And.intro hS (And.intro hMl (And.intro hrd (And.intro hsame (And.intro h2 (And.intro hf12 hM2))))))))))
    clear hmine hf2 hf12 h2 hR2 hp hsame w1' w2' w3' w4' hp' hy hRR hrel hS hMl hrd hwn hM2
    go_upto_region 3 with (fail)
    go_quiet (fail)
    have hfq := (Fr.refl (fun _ => False) w2).drewN nq
    obtain ⟨w3, hw3⟩ : ∃ w3, w3 = w2.drewN nq := ⟨_, rfl⟩
    rw [← hw3] at hfq ⊢
    replace m2 := hfq.cell m2 (fun h => h)
    have hM3 := HP.out.2.2.2.2.2.2.2.2.2.2.fr hfq (fun h => h)
    have m1 := hM3.cell 1 rfl
    have HR3 := Lib.hid (HP.out.2.2.1.fr hfq (fun _ _ h => h))
    have HQ := Lib.hid hfq
    clear hw3 hfq r5 n4
    have hMb : rs.M.length ≤ 1000000 := by have := HP.out.2.2.2.2.2.1; omega
    go_wp2_with fail
    refine (racc_any ri rs (Gp m.dst) (m.fr : Int) 1 (by omega) w3 HR3.out hMb).mono ?_
    rintro e w4 ⟨rfl, Gi, hR4, hn4, hf4⟩
    have hch := rchosen2_any ri (raccS rs (m.fr : Int) 1) Gi 1 w4 hR4
    have hrel4 := HP.out.2.2.2.1.acc (m.fr : Int) 1
    rw [hrel4.chB 1] at hch
    have HCh := Lib.hid hch
    have H4 := Lib.hid (And.intro hR4 (And.intro hrel4 (And.intro hn4 hf4)))
    have hbmG : ¬ Gp m.dst bm := fun hg => by
      have h1 := HH.out.1.lt bm (HH.out.1.GF bm (HH.out.1.Gg m.dst bm hi hg))
      have := HW1.out.2; omega
    have hM4 := hM3.fr hf4 hbmG
    clear hR4 hrel4 hn4 hf4 hch m1 m2 hM3 hMb hbmG
    go_wp2_with fail
    refine HCh.out.mono ?_
    rintro e w5 ⟨va, vc5, rfl, hby5, hf5, hF5⟩
    have hM5 := hM4.fr hf5 (fun h => h)
    have H5 := Lib.hid (And.intro hby5 (And.intro hf5 hF5))
    clear hM4 hby5 hf5 hF5 HCh
    -- the room behind it
    have hfw25 : Fr (Gp m.dst) w2 w5 := (HQ.out.none_up.tr H4.out.2.2.2).tr H5.out.2.1.none_up
    have hn25 : Nx (Gp m.dst) Gi w2 w5 := fun k hk => by
      rcases H4.out.2.2.1 k hk with h1 | h1
      · exact .inl h1
      · have := HQ.out.size; have := H5.out.2.1.size; exact .inr (by omega)
    have hR5 := H4.out.1.none_ H5.out.2.1
    have hlen := raccS_len' rs (m.fr : Int) 1
    have hGlt : ∀ k, Gi k → k < w5.heap.size := fun k hk => by
      rcases hn25 k hk with h1 | h1
      · have := HP.out.2.2.2.2.2.2.2.2.1.lt k (HP.out.2.2.2.2.2.2.2.2.1.GF k (HP.out.2.2.2.2.2.2.2.2.1.Gg m.dst k hi h1)); have := hfw25.size; omega
      · exact h1.2
    have hrd' : (accP p (m.fr : Int) 1).sl 1 ≠ none → readyB (accP p (m.fr : Int) 1) = true := fun hne => by
      have e1 : readyB (accP p (m.fr : Int) 1) = readyB p := by unfold readyB; rw [accP_q, accP_set]
      rw [e1]
      refine HP.out.2.2.2.2.2.2.1 fun h0 => hne ?_
      unfold accP
      split
      · rw [h0]; simp only; exact h0
      · exact h0
    have HL := Lib.hid (And.intro hfw25 (And.intro hn25 (And.intro hR5 (And.intro hlen (And.intro hGlt hrd')))))
    clear hfw25 hn25 hR5 hlen hGlt hrd'
    cases hcb : chB (accP p (m.fr : Int) 1) 1 with
    | none =>
      have HC := Lib.hid hcb
      simp only [Option.isSome_none, Option.getD_none, List.length_nil]
      clear hcb hM5
      go_wp2_with fail
      refine bodyPost_end (results_none rfl _ _ _) rfl ⟨rfl, ?_⟩
      obtain ⟨hp, hy, hRR, hrel, hS, hMl, hrd, hsame, h2, hf12, -⟩ := HP.out
      obtain ⟨hfw25, hn25, hR5, hlen, hGlt, hrd'⟩ := HL.out
      have hst : acdS st m = st.upd m.dst { st.nd m.dst with p := some (accP p (m.fr : Int) 1) } := by
        unfold acdS
        rw [hp]
        simp only
        rw [if_pos hsame, HC.out]
      rw [hst]
      have hpn : chB p 1 = none ∨ readyB p = false := by
        left
        cases hcp : chB p 1 with
        | none => rfl
        | some u =>
          exfalso
          have h1 := HC.out
          rw [chB_acc hcp] at h1
          cases h1
      have hput := h2.putP hi (F' := fun k => F k ∨ Gi k) hp hy hR5 H4.out.2.1 (by rw [hlen.2]; omega) (by have := hlen.1; omega) hrd' (Nat.le_succ c) hn25 hfw25 (accP_q _ _ _) (accP_n _ _ _) (accP_f _ _ _) hpn (fun k => Iff.rfl) hGlt
      refine ⟨_, _, ⟨_, _, _, _, _, _, hput⟩, fun k hk => ?_, fun k hk => ?_, (hf12.none_up).tr (hfw25.mono fun k _ hk => h2.Gg m.dst k hi hk), fun k hk => .inl hk⟩
      · rcases hk with hk | hk
        · exact .inl hk
        · rcases hn25 k hk with h3 | h3
          · exact .inl (h2.Gg m.dst k hi h3)
          · have := hf12.size; exact .inr (by omega)
      · rcases hk with hk | hk
        · exact .inl hk
        · rcases hn25 k hk with h3 | h3
          · exact .inl (h2.GF k (h2.Gg m.dst k hi h3))
          · have := hf12.size; exact .inr (by omega)
    | some u =>
      have HC := Lib.hid hcb
      rw [hcb] at H5
      simp only [Option.isSome_some, Option.getD_some] at H5 ⊢
      clear hcb
      have hf15 : Fr (Gp m.dst) w2 w5 := HL.out.1
      have hnbG : ¬ Gp m.dst nb := (HH.out.1.dr m.dst hi).2.1
      have hrG : ¬ Gp m.dst r := (HH.out.1.dr m.dst hi).1
      have hB5 := HP.out.2.2.2.2.2.2.2.2.1.nblk.fr hf15 hnbG
      have hr5 := (HP.out.2.2.2.2.2.2.2.2.1.blk.fr hf15 hrG).cell 5 rfl
      have r5 : w5.cell? ⟨r, 5, none⟩ = some (.slice (some ⟨nb, 0, none⟩) st.N st.N) := hr5
      have m2 := hM5.cell 2 rfl
      have hR := HP.out.2.2.2.2.2.2.2.2.1.ndr hi
      have n6 : w5.cell? ⟨nb, m.dst * 8 + 6, none⟩ = some (nv m.dst).e := hR.cell hB5 (j := 6) rfl
      have n7 : w5.cell? ⟨nb, m.dst * 8 + 7, none⟩ = some (.bool (st.nd m.dst).kn) := hR.cell hB5 (j := 7) rfl
      have nf := hB5.frozen
      have hbn : bm ≠ nb := hM5.ne_ hB5 (by decide)
      have hrn : r ≠ nb := HH.out.1.blk.ne_ HH.out.1.nblk (by decide)
      have HB5 := Lib.hid (And.intro hB5 (And.intro hR (And.intro hbn (And.intro hrn (And.intro hr5 (And.intro hM5 (And.intro hnbG hf15)))))))
      clear hf15 hnbG hrG hB5 hr5 hR hbn hrn hM5
      go_upto_region 7 with (fail)
      go_cut [4] (fun _ wx => wx = (w5.setCell ⟨nb, m.dst * 8 + 6, none⟩ (.slice va u.length vc5)).drew)
      case first =>
        go_region_law (fail)
        all_goals
          go_wp2_with fail
          go_meet
          exact rfl
      case rest =>
        have hB6 := (HB5.out.1.set_ (m.dst * 8 + 6) (.slice va u.length vc5)).fr (Fr.refl (fun _ => False) (w5.setCell ⟨nb, m.dst * 8 + 6, none⟩ (.slice va u.length vc5))).drew (fun h => h)
        have hf6 : Fr (fun k => k = nb) w5 wc := by rw [hcut]; exact (Fr.set1 w5 nb _ _).drew
        rw [← hcut] at hB6
        obtain ⟨w6, hw6⟩ : ∃ w6, w6 = wc := ⟨_, rfl⟩
        rw [← hw6] at hB6 hf6 ⊢
        clear hcut hw6 r5 m2 n6 n7 nf
        have r5 : w6.cell? ⟨r, 5, none⟩ = some (.slice (some ⟨nb, 0, none⟩) st.N st.N) := hf6.cell HB5.out.2.2.2.2.1 HB5.out.2.2.2.1
        have m2 := (HB5.out.2.2.2.2.2.1.fr hf6 HB5.out.2.2.1).cell 2 rfl
        have hR6 := HB5.out.2.1.set_ hi (j0 := 6) (by omega) (.slice va u.length vc5)
        have n7 : w6.cell? ⟨nb, m.dst * 8 + 7, none⟩ = some (.bool (st.nd m.dst).kn) := hR6.cell hB6 (j := 7) rfl
        have nf := hB6.frozen
        have HB6 := Lib.hid (And.intro hB6 (And.intro hR6 hf6))
        clear hB6 hR6 hf6
        go_upto_region 8 with (fail)
        go_region_law (fail)
        all_goals
          obtain ⟨wc, hcut⟩ : ∃ wc, wc = (w6.setCell ⟨nb, m.dst * 8 + 7, none⟩ (.bool true)).drew := ⟨_, rfl⟩
          rw [← hcut]
          have hB7 := (HB6.out.1.set_ (m.dst * 8 + 7) (.bool true)).fr (Fr.refl (fun _ => False) (w6.setCell ⟨nb, m.dst * 8 + 7, none⟩ (.bool true))).drew (fun h => h)
          have hf7 : Fr (fun k => k = nb) w5 wc := by rw [hcut]; exact HB6.out.2.2.tr (Fr.set1 w6 nb _ _).drew
          rw [← hcut] at hB7
          have hR7 := HB6.out.2.1.set_ hi (j0 := 7) (by omega) (.bool true)
          clear hcut r5 m2 n7 nf
          have HB7 := Lib.hid (And.intro hB7 (And.intro hR7 hf7))
          clear hB7 hR7 hf7
          go_wp2_with fail
          refine bodyPost_end (results_none rfl _ _ _) rfl ⟨rfl, ?_⟩
          obtain ⟨hp, hy, hRR, hrel, hS, hMl, hrd, hsame, h2, hf12, -⟩ := HP.out
          obtain ⟨hfw25, hn25, hR5, hlen, hGlt, hrd'⟩ := HL.out
          obtain ⟨hB7, hR7, hf7⟩ := HB7.out
          have hnbG := HB5.out.2.2.2.2.2.2.1
          have hst : acdS st m = st.upd m.dst { st.nd m.dst with p := some (accP p (m.fr : Int) 1), ln := u, kn := true } := by
            unfold acdS
            rw [hp]
            simp only
            rw [if_pos hsame, HC.out]
          rw [hst]
          have hlt0 := h2.lt
          have hs25 := hfw25.size
          have hs7 := hf7.size
          have hfx : Fr (fun k => k = nb ∨ Gp m.dst k) w2 wc := (hfw25.mono fun _ _ h => .inr h).tr (hf7.mono fun _ _ h => .inl h)
          have hGi : ∀ k, Gi k → Gp m.dst k ∨ (¬ F k ∧ (F k ∨ Gi k)) := fun k hk => by
            rcases hn25 k hk with h4 | h4
            · exact .inl h4
            · exact .inr ⟨fun h5 => by have := hlt0 k h5; omega, .inr hk⟩
          have hGinb : ¬ Gi nb := fun h => by
            rcases hn25 nb h with h4 | h4
            · exact hnbG h4
            · have := h2.nblk.lt; omega
          have hYR : ∀ k, (k = nb ∨ Gp m.dst k) → Ro F G k := fun k hk => .inr (hk.elim (fun e => e ▸ h2.Gn) (h2.Gg m.dst k hi))
          have hX : ∀ k, Ro (fun k => F k ∨ Gi k) (fun k => G k ∨ Gi k) k → Ro F G k := fun k hk => by
            rcases hk with h1 | h1 | h1
            · exact .inl fun h2 => h1 (.inl h2)
            · exact .inr h1
            · rcases hGi k h1 with h3 | h3
              · exact .inr (h2.Gg m.dst k hi h3)
              · exact .inl h3.1
          obtain ⟨n1, n2, n3⟩ := h2.nval m.dst hi
          have hul : u.length ≤ 100 := by
            have hw := hR5.wf
            have h6 := H4.out.2.1.chB 1
            rw [HC.out] at h6
            unfold rchB at h6
            cases hfv : findV (raccS rs (m.fr : Int) 1).S 1 with
            | none => rw [hfv] at h6; cases h6
            | some z =>
              rw [hfv] at h6
              have h6 : (if isQ (raccS rs (m.fr : Int) 1).q true (markBit (raccS rs (m.fr : Int) 1).M 1) = true then some z.v else none) = some u := h6
              split at h6
              · injection h6 with h6
                rw [← h6]
                unfold findV at hfv
                exact (hw.sl z (List.mem_of_find?_eq_some hfv)).2.2.2.2
              · cases h6
          have hsl : (accP p (m.fr : Int) 1).sl 1 ≠ none := fun h0 => by
            have h6 := HC.out
            unfold chB at h6
            rw [h0] at h6
            cases h6
          have hwn : NWf st.q { st.nd m.dst with p := some (accP p (m.fr : Int) 1), ln := u, kn := true } := by
            have h3 := (h2.wf.nd m.dst hi).setP hp (accP_q p (m.fr : Int) 1) (accP_n p (m.fr : Int) 1) (accP_f p (m.fr : Int) 1)
            exact ⟨h3.pn, h3.pd0, h3.pd1, h3.vt, h3.seen, h3.bn, h3.bd0, h3.bd1, h3.val, hul, h3.p⟩
          have hput := h2.putN hi (x' := { st.nd m.dst with p := some (accP p (m.fr : Int) 1), ln := u, kn := true }) (y' := { nv m.dst with e := .slice va u.length vc5 }) (Gi := Gi) (F' := fun k => F k ∨ Gi k) (c' := c + 1) hfx
            (fun k hk => hk.elim .inl (fun h => .inr (.inl h))) hB7 hR7 hGi ((n1.up hfx hYR).mono hX) (h2.z0 m.dst hi) ((n2.fr hfx hYR).up hX)
            ⟨H5.out.1.fr' hf7 (fun k hk hne e => by have e : k = nb := e; subst e; exact hGinb (H5.out.2.2 k hk hne)), fun k hk hne => ⟨.inr (H5.out.2.2 k hk hne), .inr ⟨H5.out.2.2 k hk hne, _, rfl, HC.out, hrd' hsl⟩⟩⟩
            (.inr ⟨_, ri, _, rfl, hy, hR5.fr hf7 (fun k hk e => by have e : k = nb := e; subst e; exact hGinb hk), H4.out.2.1, by rw [hlen.2]; omega, by have := hlen.1; omega, hrd'⟩) (Nat.le_succ c) hwn (fun k hk => .inl hk)
            (fun k hk => by
              rcases hk with hk | hk
              · have := hlt0 k hk; omega
              · have := hGlt k hk; omega)
          refine ⟨_, _, ⟨_, _, _, _, _, _, hput⟩, fun k hk => ?_, fun k hk => ?_, (hf12.none_up).tr (hfx.mono fun k _ hk => hk.elim (fun e => e ▸ h2.Gn) (h2.Gg m.dst k hi)), fun k hk => .inl hk⟩
          · rcases hk with hk | hk
            · exact .inl hk
            · rcases hn25 k hk with h3 | h3
              · exact .inl (h2.Gg m.dst k hi h3)
              · have := hf12.size; exact .inr (by omega)
          · rcases hk with hk | hk
            · exact .inl hk
            · rcases hn25 k hk with h3 | h3
              · exact .inl (h2.GF k (h2.Gg m.dst k hi h3))
              · have := hf12.size; exact .inr (by omega)
end Go.Proofs.Ytkpfgoalohbfeaa
