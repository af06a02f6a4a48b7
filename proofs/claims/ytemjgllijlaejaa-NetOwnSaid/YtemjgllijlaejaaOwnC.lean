/- The walk of NetOwn. -/
import Derived.Test.YtemjgllijlaejaaOwnB
import Derived.Test.YtemjgllijlaejaaNetJ
namespace Go.Proofs.Ytemjgllijlaejaa
open Go.RowKit

theorem Fl.up {w w' w'' : World} {nb pb : Nat} {N f t : Int} {s : Value} {L : List Pk} {F : Nat → Prop} (h : Fl w w' nb pb N f t s L F) (hf : Fr (fun _ => False) w' w'') : Fl w w'' nb pb N f t s L F :=
  ⟨h.st.fr hf (fun _ _ h => h), h.nf, h.blk.fr hf (fun h => h), h.fr.tr hf⟩
theorem Mv.not' {F F' : Nat → Prop} {w w' : World} {q : Nat} (m : Mv F w F' w') (nf : ¬ F q) (hq : q < w.heap.size) : ¬ F' q := fun h => by
  rcases m.new q h with h1 | h1
  · exact nf h1
  · omega
/-- A packet that was handed out: where it lies, where its bytes lie; none of the net's blocks. -/
structure Out (w : World) (F : Nat → Prop) (q g c : Nat) (bs : List UInt8) : Prop where
  bk : Blk w q 29 #[.int .i64 0, .int .i64 0, .slice (some ⟨g, 0, none⟩) bs.length c]
  ow : w.ownsRow 0 5 1 (.slice (some ⟨g, 0, none⟩) bs.length c) bs.length (u8s bs)
  nq : ¬ F q
  ng : ¬ F g
section
variable {w w' : World} {F F' : Nat → Prop} {q g c : Nat} {bs : List UInt8}
theorem Out.mv (h : Out w F q g c bs) (m : Mv F w F' w') : Out w' F' q g c bs :=
  ⟨h.bk.fr m.fr h.nq, own_fr h.ow m.fr (fun k hk => by simp only [Value.ownBlock, Option.some.injEq] at hk; subst hk; exact h.ng), m.not' h.nq h.bk.lt, m.not' h.ng (own_lt h.ow rfl)⟩
theorem Out.up (h : Out w F q g c bs) (hf : Fr (fun _ => False) w w') : Out w' F q g c bs := ⟨h.bk.fr hf (fun h => h), own_fr h.ow hf (fun _ _ h => h), h.nq, h.ng⟩
theorem Out.lt (h : Out w F q g c bs) : g < w.heap.size := own_lt h.ow rfl
theorem Out.over (h : Out w F q g c bs) : ∃ cur, Blk w g 5 cur ∧ cur.size = c ∧ bs.length ≤ c ∧ c ≤ maxLen := by
  rcases own_form h.ow with ⟨h1, _⟩ | ⟨g', cap, cur, h1, _, h2, h3, h4, h5, _⟩
  · cases h1
  · injection h1 with h1 _ h6
    injection h1 with h1
    injection h1 with h1
    subst h1 h6
    exact ⟨cur, h2, by rw [h5, Nat.mul_one], h3, h4⟩
end
theorem five {R : List Rw} {a b c d e : Rw} (h : R = [a, b, c, d, e]) {i : Nat} {r : Rw} (hr : R[i]? = some r) : (i = 0 ∧ r = a) ∨ (i = 1 ∧ r = b) ∨ (i = 2 ∧ r = c) ∨ (i = 3 ∧ r = d) ∨ (i = 4 ∧ r = e) := by
  subst h
  rcases i with _ | _ | _ | _ | _ | i
  all_goals simp at hr
  all_goals simp [hr]

set_option maxRecDepth 100000 in
set_option maxHeartbeats 4000000 in
theorem ownlaw_long (p : Pk) (s : Value) (w : World) (hs : Byt w s p.b) (hb : 1200 < p.b.length) :
    Calls Try.prog 8 #[.agg #[.int .i64 p.f, .int .i64 p.t, s]] w fun e w' => e = .returned (.bool true) ∧ Below w.heap.size w w' := by
  have hs0 := hs
  obtain ⟨sa, sc, rfl, -, -⟩ := hs0
  obtain ⟨w1, hw1⟩ : ∃ w1, w1 = w.alloc (.cells #[.int .i64 p.f, .int .i64 p.t, .slice sa p.b.length sc] 29) := ⟨_, rfl⟩
  have hf1 : Fr (fun _ => False) w w1 := by rw [hw1]; exact (Fr.refl _ w).alloc _
  have hb1 : Blk w1 w.heap.size 29 #[.int .i64 p.f, .int .i64 p.t, .slice sa p.b.length sc] := by rw [hw1]; exact Blk.new _ _ _
  have HW1 := Lib.hid hw1
  have hb' : (1200 : Int) < (p.b.length : Int) := by omega
  have c0 := hb1.cell 0 rfl
  have c1 := hb1.cell 1 rfl
  have c2 := hb1.cell 2 rfl
  clear hw1
  by_cases hl : 3000 < p.b.length
  all_goals
    go_enter Try.func8, Try.ntmps8
    go_upto_region 1 with (fail)
    rw [← HW1.out]
    clear HW1
    go_wp2_with fail
    refine (long_any p _ w1 (hs.fr hf1 (fun _ _ h => h))).mono ?_
    rintro e w2 ⟨rfl, hf2⟩
    first | rw [decide_eq_true hl] | rw [decide_eq_false hl]
    have d2 := (hb1.fr hf2 (fun h => h)).cell 2 rfl
    have hf := hf1.tr hf2
    clear c0 c1 c2 hf2 hf1
    go_wp2_with fail
    refine (known_any w2).mono ?_
    rintro e w3 ⟨rfl, hf3⟩
    go_wp2_with fail
    go_ret
    exact ⟨rfl, ((hf.tr hf3).none_up).below (Nat.le_refl _)⟩

set_option maxRecDepth 100000 in
set_option maxHeartbeats 16000000 in
theorem ownlaw_main (p : Pk) (s : Value) (w : World) (hs : Byt w s p.b) (hb : ¬ 1200 < p.b.length) :
    Calls Try.prog 8 #[.agg #[.int .i64 p.f, .int .i64 p.t, s]] w fun e w' => e = .returned (.bool true) ∧ Below w.heap.size w w' := by
  obtain ⟨f, t, bs⟩ := p
  simp only at hs hb ⊢
  have hs0 := hs
  obtain ⟨sa, sc, rfl, -, -⟩ := hs0
  obtain ⟨w1, hw1⟩ : ∃ w1, w1 = w.alloc (.cells #[.int .i64 f, .int .i64 t, .slice sa bs.length sc] 29) := ⟨_, rfl⟩
  have hf1 : Fr (fun _ => False) w w1 := by rw [hw1]; exact (Fr.refl _ w).alloc _
  have hb1 : Blk w1 w.heap.size 29 #[.int .i64 f, .int .i64 t, .slice sa bs.length sc] := by rw [hw1]; exact Blk.new _ _ _
  have HW1 := Lib.hid hw1
  have hb' : ¬ (1200 : Int) < (bs.length : Int) := by omega
  have c0 := hb1.cell 0 rfl
  have c1 := hb1.cell 1 rfl
  have c2 := hb1.cell 2 rfl
  clear hw1
  go_enter Try.func8, Try.ntmps8
  go_upto_region 1 with (fail)
  rw [← HW1.out]
  clear HW1
  go_wp2_with fail
  refine (long_any ⟨f, t, bs⟩ _ w1 (hs.fr hf1 (fun _ _ h => h))).mono ?_
  rintro e w2 ⟨rfl, hf2⟩
  rw [decide_eq_false (by simp only; omega)]
  have hb2 := hb1.fr hf2 (fun h => h)
  have d2 := hb2.cell 2 rfl
  have hf12 := hf1.tr hf2
  clear c0 c1 c2 hf2 hf1 hb1
  go_wp2_with fail
  refine (new_st 1 w2 (by omega) (by omega) w.heap.size hf12.size).mono ?_
  rintro e w3 ⟨nb, F, rfl, hS, hn, hf3⟩
  have hb3 := hb2.fr hf3 (fun h => h)
  have hw1l := hb2.lt
  clear d2 hb2
  have c0 := hb3.cell 0 rfl
  have c1 := hb3.cell 1 rfl
  have c2 := hb3.cell 2 rfl
  have c3 := hb3.frozen
  have hF : Fl w ((w3.setCell ⟨w.heap.size, 0, none⟩ (.int .i64 0)).setCell ⟨w.heap.size, 1, none⟩ (.int .i64 0)) nb w.heap.size 1 0 0 (.slice sa bs.length sc) [] F := by
    have hX : Fr (fun k => k = w.heap.size) w3 ((w3.setCell ⟨w.heap.size, 0, none⟩ (.int .i64 0)).setCell ⟨w.heap.size, 1, none⟩ (.int .i64 0)) := (Fr.set1 _ _ _ _).setCell (p := ⟨w.heap.size, 1, none⟩) (fun _ => rfl) _
    have hnf : ¬ F w.heap.size := fun h => by have := hn _ h; omega
    refine ⟨hS.fr hX (fun k hk h => by subst h; exact hnf hk), hnf, ?_, (hf12.tr hf3).trans hX (fun k hk h => by rcases h with h | h; exact h; omega)⟩
    simpa using (hb3.set_ 0 (.int .i64 0)).set_ 1 (.int .i64 0)
  obtain ⟨w4, hw4⟩ : ∃ w4, w4 = (w3.setCell ⟨w.heap.size, 0, none⟩ (.int .i64 0)).setCell ⟨w.heap.size, 1, none⟩ (.int .i64 0) := ⟨_, rfl⟩
  obtain ⟨pb, hpb⟩ : ∃ pb, pb = w.heap.size := ⟨_, rfl⟩
  rw [← hw4, ← hpb] at hF
  have HW4 := Lib.hid hw4
  have HPB := Lib.hid hpb
  clear hS hn hf3 hf12 hb3 hw4 hpb
  go_upto_region 8 with (fail)
  rw [← HW4.out, ← HPB.out]
  clear HW4 HPB c0 c1 c2 c3 hw1l
  have c0 := hF.blk.cell 0 rfl
  have c1 := hF.blk.cell 1 rfl
  have c2 := hF.blk.cell 2 rfl
  go_wp2_with fail
  refine (send_st w.heap.size nb 1 [] _ F _ hF.st hF.fr.size ⟨0, 0, bs⟩ _ (hs.fr hF.fr (fun _ _ h => h)) (by simp only; omega)).mono ?_
  rintro e w5 ⟨rfl, G, hS, hM⟩
  rw [sendL_0 (sendE_0 (by rfl) (by rfl) (by simp only; omega) (by simp))] at hS
  rw [sendE_0 (by rfl) (by rfl) (by simp only; omega) (by simp)]
  have hG := hF.mv hS hM
  simp only [List.nil_append] at hG
  clear hS hM hF c0 c1 c2
  go_wp2_with fail
  refine (twice_st_some w.heap.size nb 1 [⟨0, 0, bs⟩] _ G _ hG.st hG.fr.size 0 ⟨0, 0, bs⟩ (by rfl) (by simp only; omega) (by simp)).mono ?_
  rintro e w6 ⟨rfl, G2, hS, hM⟩
  have hG2 := hG.mv hS hM
  simp only [List.cons_append, List.nil_append] at hG2
  clear hS hM hG
  go_wp2_with fail
  refine (twice_st_some w.heap.size nb 1 [⟨0, 0, bs⟩, ⟨0, 0, bs⟩] _ G2 _ hG2.st hG2.fr.size 1 ⟨0, 0, bs⟩ (by rfl) (by simp only; omega) (by simp)).mono ?_
  rintro e w7 ⟨rfl, G3, hS, hM⟩
  have K0 := hG2.mv hS hM
  simp only [List.cons_append, List.nil_append] at K0
  clear hS hM hG2
  go_wp2_with fail
  refine (look_some nb 1 [⟨0, 0, bs⟩, ⟨0, 0, bs⟩, ⟨0, 0, bs⟩] _ G3 0 ⟨0, 0, bs⟩ (by rfl) (by simp only; omega) _ K0.st.r).mono ?_
  rintro e ua ⟨ga, ka, rfl, ho, hg, hf⟩
  have Ma := K0.up hf
  simp only at ho
  have hng : ¬ G3 ga := fun h => by have := K0.st.hi _ h; omega
  have lowa : w.heap.size ≤ ga := by have := K0.fr.size; omega
  clear hf hg K0
  obtain ⟨v1, qa, hv, hq, hbq, hfv⟩ : ∃ v1 qa, v1 = ua.alloc (.cells #[.int .i64 0, .int .i64 0, .slice (some ⟨ga, 0, none⟩) bs.length ka] 29) ∧ qa = ua.heap.size ∧ Blk v1 qa 29 #[.int .i64 0, .int .i64 0, .slice (some ⟨ga, 0, none⟩) bs.length ka] ∧ Fr (fun _ => False) ua v1 :=
    ⟨_, _, rfl, rfl, Blk.new _ _ _, (Fr.refl _ _).alloc _⟩
  have L1 := Ma.up hfv
  have Oa : Out v1 G3 qa ga ka bs := ⟨hbq, own_fr ho hfv (fun _ _ h => h), fun h => by have := Ma.st.hi _ h; omega, hng⟩
  have HV := Lib.hid hv
  have HQ := Lib.hid hq
  clear hv hq hbq hfv ho hng Ma
  go_upto_region 11 with (fail)
  rw [← HV.out, ← HQ.out]
  clear HV HQ
  go_wp2_with fail
  refine (look_some nb 1 [⟨0, 0, bs⟩, ⟨0, 0, bs⟩, ⟨0, 0, bs⟩] _ G3 0 ⟨0, 0, bs⟩ (by rfl) (by simp only; omega) _ L1.st.r).mono ?_
  rintro e ub ⟨gb, kb, rfl, ho, hg, hf⟩
  have Mb := L1.up hf
  simp only at ho
  have hng : ¬ G3 gb := fun h => by have := L1.st.hi _ h; omega
  have lowb : w.heap.size ≤ gb := by have := L1.fr.size; omega
  have neab : ga ≠ gb := by have := Oa.lt; omega
  have Oa := Oa.up hf
  clear hf hg L1
  obtain ⟨v2, qb, hv, hq, hbq, hfv⟩ : ∃ v2 qb, v2 = ub.alloc (.cells #[.int .i64 0, .int .i64 0, .slice (some ⟨gb, 0, none⟩) bs.length kb] 29) ∧ qb = ub.heap.size ∧ Blk v2 qb 29 #[.int .i64 0, .int .i64 0, .slice (some ⟨gb, 0, none⟩) bs.length kb] ∧ Fr (fun _ => False) ub v2 :=
    ⟨_, _, rfl, rfl, Blk.new _ _ _, (Fr.refl _ _).alloc _⟩
  have L2 := Mb.up hfv
  have Ob : Out v2 G3 qb gb kb bs := ⟨hbq, own_fr ho hfv (fun _ _ h => h), fun h => by have := Mb.st.hi _ h; omega, hng⟩
  have Oa := Oa.up hfv
  have HV := Lib.hid hv
  have HQ := Lib.hid hq
  clear hv hq hbq hfv ho hng Mb
  go_upto_region 12 with (fail)
  rw [← HV.out, ← HQ.out]
  clear HV HQ
  go_wp2_with fail
  refine (take_st_some w.heap.size nb 1 [⟨0, 0, bs⟩, ⟨0, 0, bs⟩, ⟨0, 0, bs⟩] _ G3 _ L2.st 2 ⟨0, 0, bs⟩ (by rfl)).mono ?_
  rintro e uc ⟨gc, kc, rfl, ho, hg, Fc, hS, hng, hM⟩
  have Mc : Fl w uc nb pb 1 0 0 (.slice sa bs.length sc) [⟨0, 0, bs⟩, ⟨0, 0, bs⟩] Fc := L2.mv hS hM
  simp only at ho
  have lowc : w.heap.size ≤ gc := L2.st.lo _ hg
  have neac : ga ≠ gc := fun h => Oa.ng (by rw [h]; exact hg)
  have nebc : gb ≠ gc := fun h => Ob.ng (by rw [h]; exact hg)
  have Oa := Oa.mv hM
  have Ob := Ob.mv hM
  clear hS hM hg L2
  obtain ⟨v3, qc, hv, hq, hbq, hfv⟩ : ∃ v3 qc, v3 = uc.alloc (.cells #[.int .i64 0, .int .i64 0, .slice (some ⟨gc, 0, none⟩) bs.length kc] 29) ∧ qc = uc.heap.size ∧ Blk v3 qc 29 #[.int .i64 0, .int .i64 0, .slice (some ⟨gc, 0, none⟩) bs.length kc] ∧ Fr (fun _ => False) uc v3 :=
    ⟨_, _, rfl, rfl, Blk.new _ _ _, (Fr.refl _ _).alloc _⟩
  have L3 := Mc.up hfv
  have Oc : Out v3 Fc qc gc kc bs := ⟨hbq, own_fr ho hfv (fun _ _ h => h), fun h => by have := Mc.st.hi _ h; omega, hng⟩
  have Oa := Oa.up hfv
  have Ob := Ob.up hfv
  have HV := Lib.hid hv
  have HQ := Lib.hid hq
  clear hv hq hbq hfv ho hng Mc
  go_upto_region 13 with (fail)
  rw [← HV.out, ← HQ.out]
  clear HV HQ
  go_wp2_with fail
  refine (take_st_some w.heap.size nb 1 [⟨0, 0, bs⟩, ⟨0, 0, bs⟩] _ Fc _ L3.st 0 ⟨0, 0, bs⟩ (by rfl)).mono ?_
  rintro e ud ⟨gd, kd, rfl, ho, hg, Fd, hS, hng, hM⟩
  have Md : Fl w ud nb pb 1 0 0 (.slice sa bs.length sc) [⟨0, 0, bs⟩] Fd := L3.mv hS hM
  simp only at ho
  have lowd : w.heap.size ≤ gd := L3.st.lo _ hg
  have nead : ga ≠ gd := fun h => Oa.ng (by rw [h]; exact hg)
  have nebd : gb ≠ gd := fun h => Ob.ng (by rw [h]; exact hg)
  have necd : gc ≠ gd := fun h => Oc.ng (by rw [h]; exact hg)
  have Oa := Oa.mv hM
  have Ob := Ob.mv hM
  have Oc := Oc.mv hM
  clear hS hM hg L3
  obtain ⟨v4, qd, hv, hq, hbq, hfv⟩ : ∃ v4 qd, v4 = ud.alloc (.cells #[.int .i64 0, .int .i64 0, .slice (some ⟨gd, 0, none⟩) bs.length kd] 29) ∧ qd = ud.heap.size ∧ Blk v4 qd 29 #[.int .i64 0, .int .i64 0, .slice (some ⟨gd, 0, none⟩) bs.length kd] ∧ Fr (fun _ => False) ud v4 :=
    ⟨_, _, rfl, rfl, Blk.new _ _ _, (Fr.refl _ _).alloc _⟩
  have L4 := Md.up hfv
  have Od : Out v4 Fd qd gd kd bs := ⟨hbq, own_fr ho hfv (fun _ _ h => h), fun h => by have := Md.st.hi _ h; omega, hng⟩
  have Oa := Oa.up hfv
  have Ob := Ob.up hfv
  have Oc := Oc.up hfv
  have HV := Lib.hid hv
  have HQ := Lib.hid hq
  clear hv hq hbq hfv ho hng Md
  go_upto_region 14 with (fail)
  rw [← HV.out, ← HQ.out]
  clear HV HQ
  go_wp2_with fail
  refine (take_st_some w.heap.size nb 1 [⟨0, 0, bs⟩] _ Fd _ L4.st 0 ⟨0, 0, bs⟩ (by rfl)).mono ?_
  rintro e uf ⟨gf, kf, rfl, ho, hg, Ff, hS, hng, hM⟩
  have Mf : Fl w uf nb pb 1 0 0 (.slice sa bs.length sc) [] Ff := L4.mv hS hM
  simp only at ho
  have lowf : w.heap.size ≤ gf := L4.st.lo _ hg
  have neaf : ga ≠ gf := fun h => Oa.ng (by rw [h]; exact hg)
  have nebf : gb ≠ gf := fun h => Ob.ng (by rw [h]; exact hg)
  have necf : gc ≠ gf := fun h => Oc.ng (by rw [h]; exact hg)
  have nedf : gd ≠ gf := fun h => Od.ng (by rw [h]; exact hg)
  have Oa := Oa.mv hM
  have Ob := Ob.mv hM
  have Oc := Oc.mv hM
  have Od := Od.mv hM
  clear hS hM hg L4
  obtain ⟨v5, qf, hv, hq, hbq, hfv⟩ : ∃ v5 qf, v5 = uf.alloc (.cells #[.int .i64 0, .int .i64 0, .slice (some ⟨gf, 0, none⟩) bs.length kf] 29) ∧ qf = uf.heap.size ∧ Blk v5 qf 29 #[.int .i64 0, .int .i64 0, .slice (some ⟨gf, 0, none⟩) bs.length kf] ∧ Fr (fun _ => False) uf v5 :=
    ⟨_, _, rfl, rfl, Blk.new _ _ _, (Fr.refl _ _).alloc _⟩
  have L5 := Mf.up hfv
  have Of : Out v5 Ff qf gf kf bs := ⟨hbq, own_fr ho hfv (fun _ _ h => h), fun h => by have := Mf.st.hi _ h; omega, hng⟩
  have Oa := Oa.up hfv
  have Ob := Ob.up hfv
  have Oc := Oc.up hfv
  have Od := Od.up hfv
  have HV := Lib.hid hv
  have HQ := Lib.hid hq
  clear hv hq hbq hfv ho hng Mf
  go_upto_region 15 with (fail)
  rw [← HV.out, ← HQ.out]
  clear HV HQ
  have c0 := L5.blk.cell 0 rfl
  have c1 := L5.blk.cell 1 rfl
  have c2 := L5.blk.cell 2 rfl
  have d0 := Oa.bk.cell 0 rfl
  have d1 := Oa.bk.cell 1 rfl
  have d2 := Oa.bk.cell 2 rfl
  go_wp2_with fail
  refine (same_any ⟨0, 0, bs⟩ ⟨0, 0, bs⟩ _ _ _ (Byt.of_own Oa.ow) (hs.fr L5.fr (fun _ _ h => h))).mono ?_
  rintro e y0 ⟨rfl, hf⟩
  rw [sameB_refl]
  have N0 := L5.up hf
  have Oa := Oa.up hf
  have Ob := Ob.up hf
  have Oc := Oc.up hf
  have Od := Od.up hf
  have Of := Of.up hf
  clear c0 c1 c2 d0 d1 d2 hf L5
  have c0 := N0.blk.cell 0 rfl
  have c1 := N0.blk.cell 1 rfl
  have c2 := N0.blk.cell 2 rfl
  have d0 := Ob.bk.cell 0 rfl
  have d1 := Ob.bk.cell 1 rfl
  have d2 := Ob.bk.cell 2 rfl
  go_wp2_with fail
  refine (same_any ⟨0, 0, bs⟩ ⟨0, 0, bs⟩ _ _ _ (Byt.of_own Ob.ow) (hs.fr N0.fr (fun _ _ h => h))).mono ?_
  rintro e y1 ⟨rfl, hf⟩
  rw [sameB_refl]
  have N1 := N0.up hf
  have Oa := Oa.up hf
  have Ob := Ob.up hf
  have Oc := Oc.up hf
  have Od := Od.up hf
  have Of := Of.up hf
  clear c0 c1 c2 d0 d1 d2 hf N0
  have c0 := N1.blk.cell 0 rfl
  have c1 := N1.blk.cell 1 rfl
  have c2 := N1.blk.cell 2 rfl
  have d0 := Oc.bk.cell 0 rfl
  have d1 := Oc.bk.cell 1 rfl
  have d2 := Oc.bk.cell 2 rfl
  go_wp2_with fail
  refine (same_any ⟨0, 0, bs⟩ ⟨0, 0, bs⟩ _ _ _ (Byt.of_own Oc.ow) (hs.fr N1.fr (fun _ _ h => h))).mono ?_
  rintro e y2 ⟨rfl, hf⟩
  rw [sameB_refl]
  have N2 := N1.up hf
  have Oa := Oa.up hf
  have Ob := Ob.up hf
  have Oc := Oc.up hf
  have Od := Od.up hf
  have Of := Of.up hf
  clear c0 c1 c2 d0 d1 d2 hf N1
  have c0 := N2.blk.cell 0 rfl
  have c1 := N2.blk.cell 1 rfl
  have c2 := N2.blk.cell 2 rfl
  have d0 := Od.bk.cell 0 rfl
  have d1 := Od.bk.cell 1 rfl
  have d2 := Od.bk.cell 2 rfl
  go_wp2_with fail
  refine (same_any ⟨0, 0, bs⟩ ⟨0, 0, bs⟩ _ _ _ (Byt.of_own Od.ow) (hs.fr N2.fr (fun _ _ h => h))).mono ?_
  rintro e y3 ⟨rfl, hf⟩
  rw [sameB_refl]
  have N3 := N2.up hf
  have Oa := Oa.up hf
  have Ob := Ob.up hf
  have Oc := Oc.up hf
  have Od := Od.up hf
  have Of := Of.up hf
  clear c0 c1 c2 d0 d1 d2 hf N2
  have c0 := N3.blk.cell 0 rfl
  have c1 := N3.blk.cell 1 rfl
  have c2 := N3.blk.cell 2 rfl
  have d0 := Of.bk.cell 0 rfl
  have d1 := Of.bk.cell 1 rfl
  have d2 := Of.bk.cell 2 rfl
  go_wp2_with fail
  refine (same_any ⟨0, 0, bs⟩ ⟨0, 0, bs⟩ _ _ _ (Byt.of_own Of.ow) (hs.fr N3.fr (fun _ _ h => h))).mono ?_
  rintro e y4 ⟨rfl, hf⟩
  rw [sameB_refl]
  have N4 := N3.up hf
  have Oa := Oa.up hf
  have Ob := Ob.up hf
  have Oc := Oc.up hf
  have Od := Od.up hf
  have Of := Of.up hf
  clear c0 c1 c2 d0 d1 d2 hf N3
  obtain ⟨z0, qo, hz, hqo, hbo, hfz⟩ : ∃ z0 qo, z0 = y4.alloc (.cells #[.slice (some ⟨ga, 0, none⟩) bs.length ka, .slice (some ⟨gb, 0, none⟩) bs.length kb, .slice (some ⟨gc, 0, none⟩) bs.length kc, .slice (some ⟨gd, 0, none⟩) bs.length kd, .slice (some ⟨gf, 0, none⟩) bs.length kf] 27) ∧ qo = y4.heap.size ∧ Blk z0 qo 27 #[.slice (some ⟨ga, 0, none⟩) bs.length ka, .slice (some ⟨gb, 0, none⟩) bs.length kb, .slice (some ⟨gc, 0, none⟩) bs.length kc, .slice (some ⟨gd, 0, none⟩) bs.length kd, .slice (some ⟨gf, 0, none⟩) bs.length kf] ∧ Fr (fun _ => False) y4 z0 := ⟨_, _, rfl, rfl, Blk.new _ _ _, (Fr.refl _ _).alloc _⟩
  have ea := Oa.bk.cell 2 rfl
  have eb := Ob.bk.cell 2 rfl
  have ec := Oc.bk.cell 2 rfl
  have ed := Od.bk.cell 2 rfl
  have ef := Of.bk.cell 2 rfl
  have ola := Oa.lt
  have olb := Ob.lt
  have olc := Oc.lt
  have old := Od.lt
  have olf := Of.lt
  have N9 := N4.up hfz
  have Oa := Oa.up hfz
  have Ob := Ob.up hfz
  have Oc := Oc.up hfz
  have Od := Od.up hfz
  have Of := Of.up hfz
  have HZ := Lib.hid hz
  have HQ := Lib.hid hqo
  obtain ⟨R, hR⟩ : ∃ R : List Rw, R = [⟨ga, bs.length, ka⟩, ⟨gb, bs.length, kb⟩, ⟨gc, bs.length, kc⟩, ⟨gd, bs.length, kd⟩, ⟨gf, bs.length, kf⟩] := ⟨_, rfl⟩
  have h5 : Rows5 z0 R := by
    refine ⟨fun i r hr => ?_, fun i j r s hr hs hij => ?_⟩
    · rcases five hR hr with ⟨_, rfl⟩ | ⟨_, rfl⟩ | ⟨_, rfl⟩ | ⟨_, rfl⟩ | ⟨_, rfl⟩
      · obtain ⟨cur, h1, h2, h3, h4⟩ := Oa.over; exact ⟨h1.lt, h3, h4, by simp only; omega⟩
      · obtain ⟨cur, h1, h2, h3, h4⟩ := Ob.over; exact ⟨h1.lt, h3, h4, by simp only; omega⟩
      · obtain ⟨cur, h1, h2, h3, h4⟩ := Oc.over; exact ⟨h1.lt, h3, h4, by simp only; omega⟩
      · obtain ⟨cur, h1, h2, h3, h4⟩ := Od.over; exact ⟨h1.lt, h3, h4, by simp only; omega⟩
      · obtain ⟨cur, h1, h2, h3, h4⟩ := Of.over; exact ⟨h1.lt, h3, h4, by simp only; omega⟩
    · rcases five hR hr with ⟨rfl, rfl⟩ | ⟨rfl, rfl⟩ | ⟨rfl, rfl⟩ | ⟨rfl, rfl⟩ | ⟨rfl, rfl⟩ <;> rcases five hR hs with ⟨rfl, rfl⟩ | ⟨rfl, rfl⟩ | ⟨rfl, rfl⟩ | ⟨rfl, rfl⟩ | ⟨rfl, rfl⟩ <;> simp only [ne_eq] <;> omega
  have hov : Over R 0 0 z0 := by
    intro j r hr
    rcases five hR hr with ⟨_, rfl⟩ | ⟨_, rfl⟩ | ⟨_, rfl⟩ | ⟨_, rfl⟩ | ⟨_, rfl⟩
    · obtain ⟨cur, h1, h2, h3, h4⟩ := Oa.over; exact ⟨cur, h1, h2, fun h => absurd h (by omega), fun _ => by simp [fill]⟩
    · obtain ⟨cur, h1, h2, h3, h4⟩ := Ob.over; exact ⟨cur, h1, h2, fun h => absurd h (by omega), fun _ => by simp [fill]⟩
    · obtain ⟨cur, h1, h2, h3, h4⟩ := Oc.over; exact ⟨cur, h1, h2, fun h => absurd h (by omega), fun _ => by simp [fill]⟩
    · obtain ⟨cur, h1, h2, h3, h4⟩ := Od.over; exact ⟨cur, h1, h2, fun h => absurd h (by omega), fun _ => by simp [fill]⟩
    · obtain ⟨cur, h1, h2, h3, h4⟩ := Of.over; exact ⟨cur, h1, h2, fun h => absurd h (by omega), fun _ => by simp [fill]⟩
  have hoc : ∀ (i : Nat) (r : Rw), R[i]? = some r → z0.cell? ⟨qo, i, none⟩ = some r.v := by
    intro i r hr
    rcases five hR hr with ⟨rfl, rfl⟩ | ⟨rfl, rfl⟩ | ⟨rfl, rfl⟩ | ⟨rfl, rfl⟩ | ⟨rfl, rfl⟩ <;> exact hbo.cell _ rfl
  have hog : ∀ (i : Nat) (r : Rw), R[i]? = some r → r.g ≠ qo := by
    intro i r hr
    rcases five hR hr with ⟨rfl, rfl⟩ | ⟨rfl, rfl⟩ | ⟨rfl, rfl⟩ | ⟨rfl, rfl⟩ | ⟨rfl, rfl⟩ <;> simp only [ne_eq] <;> omega
  have hrl : R.length = 5 := by rw [hR]; rfl
  have hpbk := N9.blk
  have hnr : ∀ k, InR R k → w.heap.size ≤ k ∧ k ≠ pb := by
    rintro k ⟨i, r, hr, rfl⟩
    rcases five hR hr with ⟨rfl, rfl⟩ | ⟨rfl, rfl⟩ | ⟨rfl, rfl⟩ | ⟨rfl, rfl⟩ | ⟨rfl, rfl⟩
    · obtain ⟨cur, h1, _⟩ := Oa.over; exact ⟨lowa, h1.ne_ hpbk (by decide)⟩
    · obtain ⟨cur, h1, _⟩ := Ob.over; exact ⟨lowb, h1.ne_ hpbk (by decide)⟩
    · obtain ⟨cur, h1, _⟩ := Oc.over; exact ⟨lowc, h1.ne_ hpbk (by decide)⟩
    · obtain ⟨cur, h1, _⟩ := Od.over; exact ⟨lowd, h1.ne_ hpbk (by decide)⟩
    · obtain ⟨cur, h1, _⟩ := Of.over; exact ⟨lowf, h1.ne_ hpbk (by decide)⟩
  have own1 := rows_own_any z0 qo 5 R h5 (by omega) hoc hog hov
  rw [hrl] at own1
  have HP := Lib.hid hnr
  clear hz hqo hbo hfz hR h5 hov hoc hog hrl hnr
  go_wp2_with fail
  rw [← HZ.out, ← HQ.out]
  refine own1.mono ?_
  rintro e z1 ⟨rfl, hfo⟩
  have hbp := hpbk.fr hfo (fun h => (HP.out _ h).2 rfl)
  have hfin : Fr (fun k => w.heap.size ≤ k) w z1 := N9.fr.none_up.tr (hfo.mono (fun k _ h => (HP.out k h).1))
  clear hfo own1 N9 hpbk HZ HQ HP ea eb ec ed ef
  go_wp2_with fail
  refine (take_nil 0 _).mono ?_
  rintro e z2 ⟨rfl, hf⟩
  have hfin := (hfin.tr hf.none_up).alloc (.cells #[.int .i64 0, .int .i64 0, .slice none 0 0] 29)
  have hbp := (hbp.fr hf (fun h => h)).alloc (.cells #[.int .i64 0, .int .i64 0, .slice none 0 0] 29)
  clear hf
  go_wp2_with fail
  refine (look_nil 0 _).mono ?_
  rintro e z3 ⟨rfl, hf⟩
  have hfin := (hfin.tr hf.none_up).alloc (.cells #[.int .i64 0, .int .i64 0, .slice none 0 0] 29)
  have hbp := (hbp.fr hf (fun h => h)).alloc (.cells #[.int .i64 0, .int .i64 0, .slice none 0 0] 29)
  clear hf
  have c0 := hbp.cell 0 rfl
  have c1 := hbp.cell 1 rfl
  have c2 := hbp.cell 2 rfl
  go_wp2_with fail
  refine (send_nil _ _).mono ?_
  rintro e z4 ⟨rfl, hf⟩
  have hfin := hfin.tr hf.none_up
  clear hf c0 c1 c2 hbp
  go_wp2_with fail
  refine (drop_nil 0 _).mono ?_
  rintro e z5 ⟨rfl, rfl⟩
  go_wp2_with fail
  refine (twice_nil 0 _).mono ?_
  rintro e z5 ⟨rfl, rfl⟩
  go_wp2_with fail
  refine (back_nil 0 _).mono ?_
  rintro e z5 ⟨rfl, rfl⟩
  go_wp2_with fail
  refine (len_nil _).mono ?_
  rintro e z5 ⟨rfl, rfl⟩
  go_wp2_with fail
  refine (part_nil 0 1 _).mono ?_
  rintro e z5 ⟨rfl, rfl⟩
  go_wp2_with fail
  refine (join_nil 0 1 _).mono ?_
  rintro e z5 ⟨rfl, rfl⟩
  go_wp2_with fail
  refine (parted_nil 0 1 _).mono ?_
  rintro e z5 ⟨rfl, rfl⟩
  go_wp2_with fail
  refine (known_any _).mono ?_
  rintro e z6 ⟨rfl, hf⟩
  go_wp2_with fail
  go_ret
  exact ⟨rfl, (hfin.tr hf.none_up).below (Nat.le_refl _)⟩

theorem ownlaw_any (p : Pk) (s : Value) (w : World) (hs : Byt w s p.b) :
    Calls Try.prog 8 #[.agg #[.int .i64 p.f, .int .i64 p.t, s]] w fun e w' => e = .returned (.bool true) ∧ Below w.heap.size w w' := by
  by_cases hb : 1200 < p.b.length
  · exact ownlaw_long p s w hs hb
  · exact ownlaw_main p s w hs hb
end Go.Proofs.Ytemjgllijlaejaa
