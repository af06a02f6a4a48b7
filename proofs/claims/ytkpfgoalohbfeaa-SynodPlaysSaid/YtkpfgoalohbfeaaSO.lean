/- Look, Voted; a room that is not there. -/
import Derived.Test.YtkpfgoalohbfeaaSN
namespace Go.Proofs.Ytkpfgoalohbfeaa
open Go.RowKit

/-- What a node promised, and its vote. -/
def votN (st : Sy) (a : Int) : Nat := if inSy st a then (st.nd a.toNat).pn else 0
def votD (st : Sy) (a : Int) : Int := if inSy st a then (st.nd a.toNat).pd else 0
def votV (st : Sy) (a : Int) : Vt := if inSy st a then (st.nd a.toNat).vt else zeroV
def VotedP (w w' : World) (n : Nat) (d : Int) (V : Vt) (e : Ending) : Prop :=
  ∃ va vc, e = .returned (.tuple #[.agg #[.int .u64 n, .int .i64 d], .agg #[.int .u64 V.s, .int .u64 V.n, .int .i64 V.d, .slice va V.v.length vc]]) ∧ w'.ownsRow w.heap.size 5 1 (.slice va V.v.length vc) V.v.length (u8s V.v) ∧ Fr (fun _ => False) w w'
/-- The two blocks of what is told. -/
theorem row24 {w : World} {b c : Nat} {a0 a1 c0 c1 c2 c3 : Value} (hB : Blk w b 44 #[a0, a1]) (hC : Blk w c 46 #[c0, c1, c2, c3]) (x0 x1 y0 y1 y2 y3 : Value) :
    Blk ((((((w.setCell ⟨b, 0, none⟩ x0).setCell ⟨b, 1, none⟩ x1).setCell ⟨c, 0, none⟩ y0).setCell ⟨c, 1, none⟩ y1).setCell ⟨c, 2, none⟩ y2).setCell ⟨c, 3, none⟩ y3) b 44 #[x0, x1] ∧
    Blk ((((((w.setCell ⟨b, 0, none⟩ x0).setCell ⟨b, 1, none⟩ x1).setCell ⟨c, 0, none⟩ y0).setCell ⟨c, 1, none⟩ y1).setCell ⟨c, 2, none⟩ y2).setCell ⟨c, 3, none⟩ y3) c 46 #[y0, y1, y2, y3] ∧
    Fr (fun k => k = b ∨ k = c) w ((((((w.setCell ⟨b, 0, none⟩ x0).setCell ⟨b, 1, none⟩ x1).setCell ⟨c, 0, none⟩ y0).setCell ⟨c, 1, none⟩ y1).setCell ⟨c, 2, none⟩ y2).setCell ⟨c, 3, none⟩ y3) := by
  have hbc : b ≠ c := hB.ne_ hC (by decide)
  have h1 := row2 hB x0 x1
  obtain ⟨w2, hw2⟩ : ∃ w2, w2 = (w.setCell ⟨b, 0, none⟩ x0).setCell ⟨b, 1, none⟩ x1 := ⟨_, rfl⟩
  rw [← hw2] at h1 ⊢
  have hC2 := hC.fr h1.2 (fun e => hbc e.symm)
  have hf : Fr (fun k => k = c) w2 ((((w2.setCell ⟨c, 0, none⟩ y0).setCell ⟨c, 1, none⟩ y1).setCell ⟨c, 2, none⟩ y2).setCell ⟨c, 3, none⟩ y3) :=
    (((Fr.set1 w2 c 0 _).setCell (p := ⟨c, 1, none⟩) (fun _ => rfl) _).setCell (p := ⟨c, 2, none⟩) (fun _ => rfl) _).setCell (p := ⟨c, 3, none⟩) (fun _ => rfl) _
  exact ⟨h1.1.fr hf hbc, by simpa using (((hC2.set_ 0 y0).set_ 1 y1).set_ 2 y2).set_ 3 y3, (h1.2.mono fun _ _ h => .inl h).tr (hf.mono fun _ _ h => .inr h)⟩

set_option maxRecDepth 100000 in
set_option maxHeartbeats 8000000 in
theorem voted_any (r nb : Nat) (st : Sy) (c : Nat) (G F : Nat → Prop) (a : Int) (w : World) (h : Rm w r nb st c G F) :
    Calls Try.prog 17 #[.pointer (some ⟨r, 0, none⟩), .int .i64 a] w fun e w' => VotedP w w' (votN st a) (votD st a) (votV st a) e := by
  obtain ⟨w1, hw1⟩ : ∃ w1, w1 = (w.alloc (.cells #[.int .u64 0, .int .i64 0] 44)).alloc (.cells #[.int .u64 0, .int .u64 0, .int .i64 0, .slice none 0 0] 46) := ⟨_, rfl⟩
  have hf1 : Fr (fun _ => False) w w1 := by rw [hw1]; exact ((Fr.refl _ w).alloc _).alloc _
  have hB1 : Blk w1 w.heap.size 44 #[.int .u64 0, .int .i64 0] := by rw [hw1]; exact (Blk.new _ _ _).alloc _
  have hC1 : Blk w1 (w.heap.size + 1) 46 #[.int .u64 0, .int .u64 0, .int .i64 0, .slice none 0 0] := by
    have := Blk.new (w.alloc (.cells #[.int .u64 0, .int .i64 0] 44)) 46 #[.int .u64 0, .int .u64 0, .int .i64 0, .slice none 0 0]
    rw [hw1]; simpa using this
  have HW := Lib.hid hw1
  have h1 := h.none_ hf1
  have HI := Lib.hid (is_any' r nb st c G F a w1 h1)
  obtain ⟨bb, hbb⟩ : ∃ b, b = w.heap.size := ⟨_, rfl⟩
  obtain ⟨bv, hbv⟩ : ∃ b, b = bb + 1 := ⟨_, rfl⟩
  rw [← hbb] at hB1 hC1
  rw [← hbv] at hC1
  have HBB := Lib.hid (And.intro hbb hbv)
  have HF1 := Lib.hid hf1
  cases hb : inSy st a with
  | false =>
    have hv : votN st a = 0 ∧ votD st a = 0 ∧ votV st a = zeroV := by unfold votN votD votV; rw [hb]; exact ⟨rfl, rfl, rfl⟩
    rw [hv.1, hv.2.1, hv.2.2]
    have HB := Lib.hid hb
    have x0 := hB1.cell 0 rfl
    have x1 := hB1.cell 1 rfl
    have xf := hB1.frozen
    have y0 := hC1.cell 0 rfl
    have y1 := hC1.cell 1 rfl
    have y2 := hC1.cell 2 rfl
    have y3 := hC1.cell 3 rfl
    have yf := hC1.frozen
    have HX := Lib.hid (row24 hB1 hC1 (.int .u64 0) (.int .i64 0) (.int .u64 0) (.int .u64 0) (.int .i64 0) (.slice none 0 0))
    have hne : bv ≠ bb := by omega
    clear h h1 hb hv hw1 hf1 hbb hbv hB1 hC1
    go_enter Try.func17, Try.ntmps17
    go_upto_region 1 with (fail)
    rw [← HW.out, ← HBB.out.1]
    rw [← HBB.out.2]
    clear HW
    go_wp2_with fail
    refine HI.out.mono ?_
    rintro e w2 ⟨rfl, rfl⟩
    rw [HB.out]
    go_wp2_with fail
    refine bodyPost_ret (results_row_row rfl _ _ bb bv 44 46 #[.int .u64 0, .int .i64 0] #[.int .u64 0, .int .u64 0, .int .i64 0, .slice none 0 0] (0, 0) (0, 0) _ _ rfl HX.out.1 rfl HX.out.2.1 Try.underlying44 rfl (by kernel_rfl) Try.underlying46 rfl (by kernel_rfl)) rfl ?_
    refine ⟨none, 0, rfl, World.ownsRow_nil _ _ _ _, HF1.out.trans HX.out.2.2 (fun k hk hx => ?_)⟩
    have := HBB.out
    rcases hx with hx | hx <;> omega
  | true =>
    obtain ⟨i, rfl, hi⟩ := inSy_nat h.wf hb
    obtain ⟨sv, la, lc, -, -, -, -, -, r5, -⟩ := h1.cells
    obtain ⟨sv, lv, cs, nv, mv, Gp, h1⟩ := h1
    have nr := (h1.ndr hi)
    have n0 : w1.cell? ⟨nb, i * 13, none⟩ = some (.int .u64 (st.nd i).pn) := nr.cell h1.nblk (j := 0) rfl
    have n1 : w1.cell? ⟨nb, i * 13 + 1, none⟩ = some (.int .i64 (st.nd i).pd) := nr.cell h1.nblk (j := 1) rfl
    have n2 : w1.cell? ⟨nb, i * 13 + 2, none⟩ = some (.int .u64 (st.nd i).vt.s) := nr.cell h1.nblk (j := 2) rfl
    have n3 : w1.cell? ⟨nb, i * 13 + 3, none⟩ = some (.int .u64 (st.nd i).vt.n) := nr.cell h1.nblk (j := 3) rfl
    have n4 : w1.cell? ⟨nb, i * 13 + 4, none⟩ = some (.int .i64 (st.nd i).vt.d) := nr.cell h1.nblk (j := 4) rfl
    have n5 : w1.cell? ⟨nb, i * 13 + 5, none⟩ = some (nv i).v := nr.cell h1.nblk (j := 5) rfl
    have hN12 := h1.wf.n12.2.1
    have hiI : (i : Int) < (st.N : Int) := by omega
    have hby := (h1.nval i hi).1.1
    have hvl := (h1.wf.nd i hi).vt.l
    have hb0 := hby
    obtain ⟨A, cc, hev, -, -⟩ := hb0
    rw [hev] at n5 hby
    have hv : votN st i = (st.nd i).pn ∧ votD st i = (st.nd i).pd ∧ votV st i = (st.nd i).vt := by unfold votN votD votV; rw [hb, Int.toNat_natCast]; exact ⟨rfl, rfl, rfl⟩
    rw [hv.1, hv.2.1, hv.2.2]
    have HB := Lib.hid hb
    obtain ⟨x, hx⟩ : ∃ x, x = st.nd i := ⟨_, rfl⟩
    rw [← hx] at n0 n1 n2 n3 n4 n5 hby hvl ⊢
    have hnb := h1.nblk.lt
    have hrl := h1.blk.lt
    have hq : nb ≠ bb ∧ nb ≠ bv ∧ r ≠ bb ∧ r ≠ bv := ⟨h1.nblk.ne_ hB1 (by decide), h1.nblk.ne_ hC1 (by decide), h1.blk.ne_ hB1 (by decide), h1.blk.ne_ hC1 (by decide)⟩
    have hr5 := Lib.hid r5
    obtain ⟨w3, hw3⟩ : ∃ w3, w3 = w1.alloc (.cells #[.int .u64 x.vt.s, .int .u64 x.vt.n, .int .i64 x.vt.d, .slice A x.vt.v.length cc] 46) := ⟨_, rfl⟩
    obtain ⟨b6, hb6⟩ : ∃ b, b = w1.heap.size := ⟨_, rfl⟩
    have hf3 : Fr (fun _ => False) w1 w3 := by rw [hw3]; exact (Fr.refl _ w1).alloc _
    have hV3 : Blk w3 b6 46 #[.int .u64 x.vt.s, .int .u64 x.vt.n, .int .i64 x.vt.d, .slice A x.vt.v.length cc] := by rw [hw3, hb6]; exact Blk.new _ _ _
    have HW3 := Lib.hid (And.intro hw3 hb6)
    have hby3 := hby.fr hf3 (fun _ _ h => h)
    have hB3 := hB1.fr hf3 (fun h => h)
    have hC3 := hC1.fr hf3 (fun h => h)
    have n03 := hf3.cell n0 (fun h => h)
    have n13 := hf3.cell n1 (fun h => h)
    have r53 := hf3.cell r5 (fun h => h)
    have HK := Lib.hid (And.intro n03 (And.intro n13 r53))
    have hnes : bb ≠ b6 ∧ bv ≠ b6 ∧ bv ≠ bb := by have := hB1.lt; have := hC1.lt; omega
    have hnr6 : nb ≠ b6 ∧ r ≠ b6 := by omega
    have HNE := Lib.hid (And.intro hnes (And.intro hB3 (And.intro hC3 (And.intro hnr6 hq))))
    have hbwv : w.heap.size ≤ b6 := by have := hf1.size; omega
    have HBW := Lib.hid (And.intro hbwv hf3)
    clear h h1 hb hv hw1 hf1 hbb hbv hB1 hC1 nr hev hx hw3 hb6 hby hf3 n03 n13 r53 hnes hB3 hC3 hbwv hnb hrl hq hnr6
    go_enter Try.func17, Try.ntmps17
    go_upto_region 1 with (fail)
    rw [← HW.out, ← HBB.out.1]
    rw [← HBB.out.2]
    clear HW
    go_wp2_with fail
    refine HI.out.mono ?_
    rintro e w2 ⟨rfl, rfl⟩
    rw [HB.out]
    go_upto_region 4 with (fail)
    rw [← HW3.out.1, ← HW3.out.2]
    clear HW3 n0 n1 n2 n3 n4 n5 r5
    have v3 := al_cell (hV3.cell 3 rfl) (.cells #[] 5)
    go_upto_region 5 with (first
      | (at_builtin
         refine wpList_bi2 rfl .append _ _ _ _ _ rfl rfl rfl _ (ap_new w3 _ x.vt.v hby3 (by omega) _) ?_
         rintro v' w5 ⟨g5, c5, rfl, hg5, hgl5, ho5, hf5⟩
         clear v3
         have v3 := (hV3.fr hf5 (fun h => h)).cell 3 rfl
         have f3 := (hV3.fr hf5 (fun h => h)).frozen 3))
    obtain ⟨w6, hw6⟩ : ∃ w6, w6 = w5.setCell ⟨b6, 3, none⟩ (.slice (some ⟨g5, 0, none⟩) x.vt.v.length c5) := ⟨_, rfl⟩
    have hf6 : Fr (fun k => k = b6) w5 w6 := by rw [hw6]; exact Fr.set1 _ _ _ _
    have hV6 : Blk w6 b6 46 #[.int .u64 x.vt.s, .int .u64 x.vt.n, .int .i64 x.vt.d, .slice (some ⟨g5, 0, none⟩) x.vt.v.length c5] := by rw [hw6]; simpa using (hV3.fr hf5 (fun h => h)).set_ 3 (.slice (some ⟨g5, 0, none⟩) x.vt.v.length c5)
    rw [← hw6]
    have ho6 := own_fr ho5 hf6 (fun k hk => own_blk_ne ho5 (hV3.fr hf5 (fun h => h)) (by decide) k hk)
    clear hw6 v3 f3 hV3
    have hB6 := (HNE.out.2.1.fr hf5 (fun h => h)).fr hf6 HNE.out.1.1
    have hC6 := (HNE.out.2.2.1.fr hf5 (fun h => h)).fr hf6 HNE.out.1.2.1
    obtain ⟨⟨hn1, hn2, hn3⟩, -, -, ⟨hnb6, hr6⟩, hn4, hn5, hn6, hn7⟩ := HNE.out
    have hn8 : bb ≠ bv := fun e => hn3 e.symm
    have n0 := hf6.cell (hf5.cell HK.out.1 (fun h => h)) hnb6
    have n1 := hf6.cell (hf5.cell HK.out.2.1 (fun h => h)) hnb6
    have r5 := hf6.cell (hf5.cell HK.out.2.2 (fun h => h)) hr6
    have v0 := hV6.cell 0 rfl
    have v1 := hV6.cell 1 rfl
    have v2 := hV6.cell 2 rfl
    have v3 := hV6.cell 3 rfl
    have x0 := hB6.cell 0 rfl
    have x1 := hB6.cell 1 rfl
    have xf := hB6.frozen
    have y0 := hC6.cell 0 rfl
    have y1 := hC6.cell 1 rfl
    have y2 := hC6.cell 2 rfl
    have y3 := hC6.cell 3 rfl
    have yf := hC6.frozen
    have HX := Lib.hid (row24 hB6 hC6 (.int .u64 x.pn) (.int .i64 x.pd) (.int .u64 x.vt.s) (.int .u64 x.vt.n) (.int .i64 x.vt.d) (.slice (some ⟨g5, 0, none⟩) x.vt.v.length c5))
    have hbg := own_up (base := w.heap.size) ho6 (fun k hk => by simp only [Value.ownBlock] at hk; injection hk with hk; have h1 := HBW.out.1; have h2 := HBW.out.2.size; have h3 := HF1.out.size; omega)
    have hgne : g5 ≠ bb ∧ g5 ≠ bv := ⟨own_blk_ne ho6 hB6 (by decide) g5 rfl, own_blk_ne ho6 hC6 (by decide) g5 rfl⟩
    have HO := Lib.hid (And.intro hbg (And.intro hgne (And.intro hf5 hf6)))
    clear ho6 hbg hgne hf5 ho5 hV6 hB6 hC6
    go_region
    all_goals
      go_wp2_with fail
      refine bodyPost_ret (results_row_row rfl _ _ bb bv 44 46 #[.int .u64 x.pn, .int .i64 x.pd] #[.int .u64 x.vt.s, .int .u64 x.vt.n, .int .i64 x.vt.d, .slice (some ⟨g5, 0, none⟩) x.vt.v.length c5] (0, 0) (0, 0) _ _ rfl HX.out.1.drew rfl HX.out.2.1.drew Try.underlying44 rfl (by kernel_rfl) Try.underlying46 rfl (by kernel_rfl)) rfl ?_
      refine ⟨some ⟨g5, 0, none⟩, c5, rfl, own_fr HO.out.1 HX.out.2.2.drew (fun k hk hx => ?_), ?_⟩
      · simp only [Value.ownBlock] at hk
        injection hk with hk
        have h5 := HO.out.2.1
        rcases hx with hx | hx <;> omega
      · have hb0 := HBB.out
        have hb1 := HBW.out.1
        have hA : Fr (fun _ => False) w w6 := by
          refine (((HF1.out.tr HBW.out.2).tr HO.out.2.2.1).trans HO.out.2.2.2 (fun k hk hx => ?_))
          rcases hx with hx | hx
          · exact hx
          · omega
        · refine hA.trans HX.out.2.2.drew (fun k hk hx => ?_)
          rcases hx with hx | hx
          · exact hx
          · rcases hx with hx | hx <;> omega

/-! ### a room that is not there -/
theorem is_nil (a : Int) (w : World) : Calls Try.prog 34 #[.pointer none, .int .i64 a] w fun e w' => e = .returned (.bool false) ∧ w = w' := by
  go_enter Try.func34, Try.ntmps34
  go_wp2_with fail
  go_ret
  exact ⟨rfl, rfl⟩
theorem there_nil (a : Int) (w : World) : Calls Try.prog 35 #[.pointer none, .int .i64 a] w fun e w' => e = .returned (.bool false) ∧ w = w' := by
  go_enter Try.func35, Try.ntmps35
  go_wp2_with fail
  go_ret
  exact ⟨rfl, rfl⟩
theorem take_nil (a : Int) (w : World) : Calls Try.prog 23 #[.pointer none, .int .i64 a] w fun e w' => e = .returned (.bool false) ∧ w = w' := by
  go_enter Try.func23, Try.ntmps23
  go_wp2_with fail
  refine (there_nil a w).mono ?_
  rintro e w2 ⟨rfl, rfl⟩
  go_wp2_with fail
  go_ret
  exact ⟨rfl, rfl⟩
theorem drop_nil (a : Int) (w : World) : Calls Try.prog 21 #[.pointer none, .int .i64 a] w fun e w' => e = .returned (.bool false) ∧ w = w' := by
  go_enter Try.func21, Try.ntmps21
  go_wp2_with fail
  refine (there_nil a w).mono ?_
  rintro e w2 ⟨rfl, rfl⟩
  go_wp2_with fail
  go_ret
  exact ⟨rfl, rfl⟩
theorem twice_nil (a : Int) (w : World) : Calls Try.prog 32 #[.pointer none, .int .i64 a] w fun e w' => e = .returned (.bool false) ∧ w = w' := by
  go_enter Try.func32, Try.ntmps32
  go_wp2_with fail
  refine (there_nil a w).mono ?_
  rintro e w2 ⟨rfl, rfl⟩
  go_wp2_with fail
  go_ret
  exact ⟨rfl, rfl⟩
theorem crash_nil (a : Int) (w : World) : Calls Try.prog 33 #[.pointer none, .int .i64 a] w fun e w' => e = .returned (.int .i64 1) ∧ w = w' := by
  go_enter Try.func33, Try.ntmps33
  go_wp2_with fail
  go_ret
  exact ⟨rfl, rfl⟩
theorem len_nil (w : World) : Calls Try.prog 20 #[.pointer none] w fun e w' => e = .returned (.int .i64 0) ∧ w = w' := by
  go_enter Try.func20, Try.ntmps20
  go_wp2_with fail
  go_ret
  exact ⟨rfl, rfl⟩
theorem lrn_nil (a : Int) (w : World) : Calls Try.prog 14 #[.pointer none, .int .i64 a] w fun e w' => e = .returned (.tuple #[.slice none 0 0, .bool false]) ∧ w = w' := by
  go_enter Try.func14, Try.ntmps14
  go_wp2_with fail
  refine (is_nil a w).mono ?_
  rintro e w2 ⟨rfl, rfl⟩
  go_wp2_with fail
  go_ret2
  exact ⟨rfl, rfl⟩
set_option maxHeartbeats 2000000 in
theorem start_nil (a : Int) (s : Value) (w : World) : Calls Try.prog 22 #[.pointer none, .int .i64 a, s] w fun e w' => e = .returned (.tuple #[.agg #[.int .u64 0, .int .i64 0], .int .i64 1]) ∧ Fr (fun _ => False) w w' := by
  obtain ⟨w1, hw1⟩ : ∃ w1, w1 = w.alloc (.cells #[.int .u64 0, .int .i64 0] 44) := ⟨_, rfl⟩
  have hf1 : Fr (fun _ => False) w w1 := by rw [hw1]; exact (Fr.refl _ w).alloc _
  obtain ⟨bb, hbb⟩ : ∃ b, b = w.heap.size := ⟨_, rfl⟩
  have hB1 : Blk w1 bb 44 #[.int .u64 0, .int .i64 0] := by rw [hw1, hbb]; exact Blk.new _ _ _
  have HW1 := Lib.hid (And.intro hw1 hbb)
  have x0 := hB1.cell 0 rfl
  have x1 := hB1.cell 1 rfl
  have xf := hB1.frozen
  have HX := Lib.hid (And.intro (row2 hB1 (.int .u64 0) (.int .i64 0)) (And.intro hf1 hbb))
  clear hw1 hbb hB1 hf1
  go_enter Try.func22, Try.ntmps22
  go_upto_region 1 with (fail)
  rw [← HW1.out.1, ← HW1.out.2]
  clear HW1
  go_wp2_with fail
  refine bodyPost_ret (results_row_tmp rfl _ _ bb 44 #[.int .u64 0, .int .i64 0] (0, 0) _ rfl HX.out.1.1 Try.underlying44 rfl (by kernel_rfl)) rfl ⟨rfl, ?_⟩
  have hb := HX.out.2.2
  exact HX.out.2.1.trans HX.out.1.2 (fun k hk hx => hx.elim id (fun e => by omega))
set_option maxHeartbeats 2000000 in
theorem look_nil (a : Int) (w : World) : Calls Try.prog 29 #[.pointer none, .int .i64 a] w fun e w' => e = .returned (.tuple #[.agg mail0, .bool false]) ∧ Fr (fun _ => False) w w' := by
  obtain ⟨w1, hw1⟩ : ∃ w1, w1 = w.alloc (.cells mail0 68) := ⟨_, rfl⟩
  have hf1 : Fr (fun _ => False) w w1 := by rw [hw1]; exact (Fr.refl _ w).alloc _
  obtain ⟨bb, hbb⟩ : ∃ b, b = w.heap.size := ⟨_, rfl⟩
  have hB1 : Blk w1 bb 68 #[.int .i64 0, .int .i64 0, .int .i64 0, .int .u64 0, .int .i64 0, .slice none 0 0] := by rw [hw1, hbb]; exact Blk.new _ _ _
  unfold mail0 at hw1
  have HW1 := Lib.hid (And.intro hw1 hbb)
  have x0 := hB1.cell 0 rfl
  have x1 := hB1.cell 1 rfl
  have x2 := hB1.cell 2 rfl
  have x3 := hB1.cell 3 rfl
  have x4 := hB1.cell 4 rfl
  have x5 := hB1.cell 5 rfl
  have xf := hB1.frozen
  have HX := Lib.hid (And.intro (row6 hB1 (.int .i64 0) (.int .i64 0) (.int .i64 0) (.int .u64 0) (.int .i64 0) (.slice none 0 0)) (And.intro hf1 hbb))
  clear hw1 hbb hB1 hf1
  go_enter Try.func29, Try.ntmps29
  go_upto_region 1 with (fail)
  rw [← HW1.out.1, ← HW1.out.2]
  clear HW1
  go_wp2_with fail
  refine (there_nil a w1).mono ?_
  rintro e w2 ⟨rfl, rfl⟩
  go_wp2_with fail
  refine bodyPost_ret (results_row_tmp rfl _ _ bb 68 mail0 (0, 0) _ rfl HX.out.1.1 Try.underlying68 rfl (by kernel_rfl)) rfl ⟨rfl, ?_⟩
  have hb := HX.out.2.2
  exact HX.out.2.1.trans HX.out.1.2 (fun k hk hx => hx.elim id (fun e => by omega))
set_option maxHeartbeats 2000000 in
theorem voted_nil (a : Int) (w : World) : Calls Try.prog 17 #[.pointer none, .int .i64 a] w fun e w' => VotedP w w' 0 0 zeroV e := by
  obtain ⟨w1, hw1⟩ : ∃ w1, w1 = (w.alloc (.cells #[.int .u64 0, .int .i64 0] 44)).alloc (.cells #[.int .u64 0, .int .u64 0, .int .i64 0, .slice none 0 0] 46) := ⟨_, rfl⟩
  have hf1 : Fr (fun _ => False) w w1 := by rw [hw1]; exact ((Fr.refl _ w).alloc _).alloc _
  have hB1 : Blk w1 w.heap.size 44 #[.int .u64 0, .int .i64 0] := by rw [hw1]; exact (Blk.new _ _ _).alloc _
  have hC1 : Blk w1 (w.heap.size + 1) 46 #[.int .u64 0, .int .u64 0, .int .i64 0, .slice none 0 0] := by
    have := Blk.new (w.alloc (.cells #[.int .u64 0, .int .i64 0] 44)) 46 #[.int .u64 0, .int .u64 0, .int .i64 0, .slice none 0 0]
    rw [hw1]; simpa using this
  have HW := Lib.hid hw1
  obtain ⟨bb, hbb⟩ : ∃ b, b = w.heap.size := ⟨_, rfl⟩
  obtain ⟨bv, hbv⟩ : ∃ b, b = bb + 1 := ⟨_, rfl⟩
  rw [← hbb] at hB1 hC1
  rw [← hbv] at hC1
  have HBB := Lib.hid (And.intro hbb hbv)
  have HF1 := Lib.hid hf1
  have x0 := hB1.cell 0 rfl
  have x1 := hB1.cell 1 rfl
  have xf := hB1.frozen
  have y0 := hC1.cell 0 rfl
  have y1 := hC1.cell 1 rfl
  have y2 := hC1.cell 2 rfl
  have y3 := hC1.cell 3 rfl
  have yf := hC1.frozen
  have HX := Lib.hid (row24 hB1 hC1 (.int .u64 0) (.int .i64 0) (.int .u64 0) (.int .u64 0) (.int .i64 0) (.slice none 0 0))
  have hne : bv ≠ bb := by omega
  clear hw1 hf1 hbb hbv hB1 hC1
  go_enter Try.func17, Try.ntmps17
  go_upto_region 1 with (fail)
  rw [← HW.out, ← HBB.out.1]
  rw [← HBB.out.2]
  clear HW
  go_wp2_with fail
  refine (is_nil a w1).mono ?_
  rintro e w2 ⟨rfl, rfl⟩
  go_wp2_with fail
  refine bodyPost_ret (results_row_row rfl _ _ bb bv 44 46 #[.int .u64 0, .int .i64 0] #[.int .u64 0, .int .u64 0, .int .i64 0, .slice none 0 0] (0, 0) (0, 0) _ _ rfl HX.out.1 rfl HX.out.2.1 Try.underlying44 rfl (by kernel_rfl) Try.underlying46 rfl (by kernel_rfl)) rfl ?_
  refine ⟨none, 0, rfl, World.ownsRow_nil _ _ _ _, HF1.out.trans HX.out.2.2 (fun k hk hx => ?_)⟩
  have := HBB.out
  rcases hx with hx | hx <;> omega
end Go.Proofs.Ytkpfgoalohbfeaa
