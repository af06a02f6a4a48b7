/- Len, Learned, Look, Voted, Crash; a room that is not there. -/
import Derived.Test.YtkpfgoalohbfeaaSK
namespace Go.Proofs.Ytkpfgoalohbfeaa
open Go.RowKit

theorem results_row_row {P : Program} {fn : Func} {p q : Tmp} {ty ty2 : TypeId} (h : fn.results = #[.cell p ty, .cell q ty2]) (tmps : Array Value) (w : World) (g g2 : Nat) (t t2 : TypeId) (cs cs2 : Array Value) (fr fr2 : Nat × Nat) (d d2 : TypeDesc)
    (hp : tmps.getD p undef = .pointer (some ⟨g, 0, none⟩)) (hg : w.heap[g]? = some (.cells cs t fr)) (hp2 : tmps.getD q undef = .pointer (some ⟨g2, 0, none⟩)) (hg2 : w.heap[g2]? = some (.cells cs2 t2 fr2))
    (hu : P.underlying ty = some d) (hd : (match d with | .struct _ | .array _ _ => true | _ => false) = true) (hi : (P.info? ty).map (·.size) = some cs.size)
    (hu2 : P.underlying ty2 = some d2) (hd2 : (match d2 with | .struct _ | .array _ _ => true | _ => false) = true) (hi2 : (P.info? ty2).map (·.size) = some cs2.size) :
    (results fn tmps).run P w = .ok (.tuple #[.agg cs, .agg cs2]) w := by
  have hp' : tmps[p]?.getD undef = .pointer (some ⟨g, 0, none⟩) := by simpa using hp
  have hq' : tmps[q]?.getD undef = .pointer (some ⟨g2, 0, none⟩) := by simpa using hp2
  simp [results, h, hp', hq', asAddr, Sem.run_bind, run_loadVar_row w g t ty cs fr d hg hu hd hi, run_loadVar_row w g2 t2 ty2 cs2 fr2 d2 hg2 hu2 hd2 hi2]

theorem len_any (r nb : Nat) (st : Sy) (c : Nat) (G F : Nat → Prop) (w : World) (h : Rm w r nb st c G F) :
    Calls Try.prog 20 #[.pointer (some ⟨r, 0, none⟩)] w fun e w' => e = .returned (.int .i64 (st.l.length : Int)) ∧ w = w' := by
  obtain ⟨sv, la, lc, -, -, -, -, -, -, r6⟩ := h.cells
  clear h
  go_enter Try.func20, Try.ntmps20
  go_wp2_with fail
  go_ret
  exact ⟨rfl, rfl⟩

/-- What a node knows. -/
def lrnB (st : Sy) (a : Int) : Option (List UInt8) := if inSy st a = true ∧ (st.nd a.toNat).kn = true then some (st.nd a.toNat).ln else none
theorem inSy_nat {st : Sy} {a : Int} (hw : SWf st) (h : inSy st a = true) : ∃ i : Nat, a = (i : Int) ∧ i < st.N := by
  unfold inSy at h
  rw [decide_eq_true_eq] at h
  have := hw.n12.2.2
  exact ⟨a.toNat, by omega, by omega⟩
set_option maxRecDepth 100000 in
set_option maxHeartbeats 4000000 in
theorem lrn_any (r nb : Nat) (st : Sy) (c : Nat) (G F : Nat → Prop) (a : Int) (w : World) (h : Rm w r nb st c G F) :
    Calls Try.prog 14 #[.pointer (some ⟨r, 0, none⟩), .int .i64 a] w fun e w' => ResB w w' (lrnB st a) e := by
  have HI := Lib.hid (is_any' r nb st c G F a w h)
  cases hb : inSy st a with
  | false =>
    have hl : lrnB st a = none := by unfold lrnB; rw [hb]; simp
    rw [hl]
    unfold ResB
    simp only [Option.getD_none, Option.isSome_none, List.length_nil]
    have HB := Lib.hid hb
    clear h hb hl
    go_enter Try.func14, Try.ntmps14
    go_wp2_with fail
    refine HI.out.mono ?_
    rintro e w2 ⟨rfl, rfl⟩
    rw [HB.out]
    go_wp2_with fail
    go_ret2
    exact ⟨none, 0, rfl, World.ownsRow_nil _ _ _ _, Fr.refl _ _⟩
  | true =>
    obtain ⟨i, rfl, hi⟩ := inSy_nat h.wf hb
    obtain ⟨sv, la, lc, -, -, -, -, -, r5, -⟩ := h.cells
    obtain ⟨sv, lv, cs, nv, mv, Gp, h⟩ := h
    have n11 : w.cell? ⟨nb, i * 13 + 11, none⟩ = some (nv i).e := (h.ndr hi).cell h.nblk (j := 11) rfl
    have n12 : w.cell? ⟨nb, i * 13 + 12, none⟩ = some (.bool (st.nd i).kn) := (h.ndr hi).cell h.nblk (j := 12) rfl
    have hN12 := h.wf.n12.2.1
    have hby := (h.nval i hi).2.2.1
    have hll := (h.wf.nd i hi).ln
    have hiI : (i : Int) < (st.N : Int) := by omega
    have HB := Lib.hid hb
    cases hk : (st.nd i).kn with
    | false =>
      have hl : lrnB st (i : Int) = none := by unfold lrnB; rw [Int.toNat_natCast, hk]; simp
      rw [hl]
      rw [hk] at n12
      unfold ResB
      simp only [Option.getD_none, Option.isSome_none, List.length_nil]
      clear h hb hl hby hk n11
      go_enter Try.func14, Try.ntmps14
      go_wp2_with fail
      refine HI.out.mono ?_
      rintro e w2 ⟨rfl, rfl⟩
      rw [HB.out]
      go_wp2_with fail
      go_ret2
      exact ⟨none, 0, rfl, World.ownsRow_nil _ _ _ _, Fr.refl _ _⟩
    | true =>
      have hl : lrnB st (i : Int) = some (st.nd i).ln := by unfold lrnB; rw [Int.toNat_natCast, hk, hb]; simp
      rw [hl]
      rw [hk] at n12
      unfold ResB
      simp only [Option.getD_some, Option.isSome_some]
      have hb0 := hby
      obtain ⟨A, cc, hev, -, -⟩ := hb0
      rw [hev] at n11 hby
      have H11 := Lib.hid n11
      have H5 := Lib.hid r5
      have HBY := Lib.hid hby
      clear h hb hl hby hk hev n11
      go_enter Try.func14, Try.ntmps14
      go_wp2_with fail
      refine HI.out.mono ?_
      rintro e w2 ⟨rfl, rfl⟩
      rw [HB.out]
      go_upto_region 3 with (fail)
      clear r5 n12
      have r5 := al_cell H5.out (.cells #[] 5)
      have n11 := al_cell H11.out (.cells #[] 5)
      go_wp2_with (first
        | (at_builtin
           refine wpList_bi2 rfl .append _ _ _ _ _ rfl rfl rfl _ (ap_new w _ (st.nd i).ln HBY.out (by omega) _) ?_
           rintro v' w2 hN
           obtain ⟨va, vc, rfl, ho, hf2⟩ := hN.res (Fr.refl _ w)))
      go_ret2
      exact ⟨va, vc, rfl, ho, hf2⟩

theorem RmX.crashed {w : World} {r nb c i : Nat} {st : Sy} {G F : Nat → Prop} {sv lv : Value} {cs : Array Value} {nv : Nat → Nv} {mv : List Value} {Gp : Nat → Nat → Prop} {sa : Option Addr} {sc : Nat} (h : RmX w r nb st c G F sv lv cs nv mv Gp) (hi : i < st.N) (hv : (nv i).v = .slice sa (st.nd i).vt.v.length sc) :
    RmTo w r nb (st.upd i (crashN (st.nd i))) c G F (((((((((((((w.setCell ⟨nb, i * 13, none⟩ (.int .u64 (st.nd i).pn)).setCell ⟨nb, i * 13 + 1, none⟩ (.int .i64 (st.nd i).pd)).setCell ⟨nb, i * 13 + 2, none⟩ (.int .u64 (st.nd i).vt.s)).setCell ⟨nb, i * 13 + 3, none⟩ (.int .u64 (st.nd i).vt.n)).setCell ⟨nb, i * 13 + 4, none⟩ (.int .i64 (st.nd i).vt.d)).setCell ⟨nb, i * 13 + 5, none⟩ (.slice sa (st.nd i).vt.v.length sc)).setCell ⟨nb, i * 13 + 6, none⟩ (.int .u64 (st.nd i).seen)).setCell ⟨nb, i * 13 + 7, none⟩ (.pointer none)).setCell ⟨nb, i * 13 + 8, none⟩ (.int .u64 0)).setCell ⟨nb, i * 13 + 9, none⟩ (.int .i64 0)).setCell ⟨nb, i * 13 + 10, none⟩ (.slice none 0 0)).setCell ⟨nb, i * 13 + 11, none⟩ (.slice none 0 0)).setCell ⟨nb, i * 13 + 12, none⟩ (.bool false)).drew := by
  obtain ⟨n1, n2, n3⟩ := h.nval i hi
  have hx := h.wf.nd i hi
  have hR := h.ndr hi
  have hB := h.nblk
  have st1 : ∀ {w' : World} {cs' : Array Value} {row : List Value}, Blk w' nb 80 cs' ∧ NdR cs' st.N i row st.nd nv ∧ Fr (fun k => k = nb) w w' → ∀ (j : Nat) (u : Value), j < 13 → ∃ cs2, Blk (w'.setCell ⟨nb, i * 13 + j, none⟩ u) nb 80 cs2 ∧ NdR cs2 st.N i (row.set j u) st.nd nv ∧ Fr (fun k => k = nb) w (w'.setCell ⟨nb, i * 13 + j, none⟩ u) :=
    fun h j u hj => ⟨_, h.1.set_ _ _, h.2.1.set_ hi hj u, h.2.2.setCell (p := ⟨nb, i * 13 + j, none⟩) (fun _ => rfl) _⟩
  obtain ⟨c0, k0⟩ := st1 ⟨hB, hR, Fr.refl _ w⟩ 0 (.int .u64 (st.nd i).pn) (by omega)
  obtain ⟨c1, k1⟩ := st1 k0 1 (.int .i64 (st.nd i).pd) (by omega)
  obtain ⟨c2, k2⟩ := st1 k1 2 (.int .u64 (st.nd i).vt.s) (by omega)
  obtain ⟨c3, k3⟩ := st1 k2 3 (.int .u64 (st.nd i).vt.n) (by omega)
  obtain ⟨c4, k4⟩ := st1 k3 4 (.int .i64 (st.nd i).vt.d) (by omega)
  obtain ⟨c5, k5⟩ := st1 k4 5 (.slice sa (st.nd i).vt.v.length sc) (by omega)
  obtain ⟨c6, k6⟩ := st1 k5 6 (.int .u64 (st.nd i).seen) (by omega)
  obtain ⟨c7, k7⟩ := st1 k6 7 (.pointer none) (by omega)
  obtain ⟨c8, k8⟩ := st1 k7 8 (.int .u64 0) (by omega)
  obtain ⟨c9, k9⟩ := st1 k8 9 (.int .i64 0) (by omega)
  obtain ⟨c10, k10⟩ := st1 k9 10 (.slice none 0 0) (by omega)
  obtain ⟨c11, k11⟩ := st1 k10 11 (.slice none 0 0) (by omega)
  obtain ⟨c12, k12⟩ := st1 k11 12 (.bool false) (by omega)
  clear k0 k1 k2 k3 k4 k5 k6 k7 k8 k9 k10 k11 st1
  rw [Nat.add_zero] at k12
  generalize (((((((((((((w.setCell ⟨nb, i * 13, none⟩ (.int .u64 (st.nd i).pn)).setCell ⟨nb, i * 13 + 1, none⟩ (.int .i64 (st.nd i).pd)).setCell ⟨nb, i * 13 + 2, none⟩ (.int .u64 (st.nd i).vt.s)).setCell ⟨nb, i * 13 + 3, none⟩ (.int .u64 (st.nd i).vt.n)).setCell ⟨nb, i * 13 + 4, none⟩ (.int .i64 (st.nd i).vt.d)).setCell ⟨nb, i * 13 + 5, none⟩ (.slice sa (st.nd i).vt.v.length sc)).setCell ⟨nb, i * 13 + 6, none⟩ (.int .u64 (st.nd i).seen)).setCell ⟨nb, i * 13 + 7, none⟩ (.pointer none)).setCell ⟨nb, i * 13 + 8, none⟩ (.int .u64 0)).setCell ⟨nb, i * 13 + 9, none⟩ (.int .i64 0)).setCell ⟨nb, i * 13 + 10, none⟩ (.slice none 0 0)).setCell ⟨nb, i * 13 + 11, none⟩ (.slice none 0 0)).setCell ⟨nb, i * 13 + 12, none⟩ (.bool false)) = w2 at k12 ⊢
  obtain ⟨hB2, hR2, hf2⟩ := k12
  have hd : Fr (fun k => k = nb) w w2.drew := hf2.drew
  have hY : ∀ k, k = nb → Ro F G k := fun k hk => .inr (hk ▸ h.Gn)
  have hX : ∀ k, Ro F (fun k => G k ∨ False) k → Ro F G k := fun k hk => hk.imp id (fun h => h.elim id False.elim)
  have hbn : RoB w2.drew F (fun k => G k ∨ False) (.slice none 0 0) [] := ⟨⟨none, 0, rfl, fun _ => rfl, fun h => absurd rfl h⟩, fun k hk _ => by cases hk⟩
  rw [hv] at n1
  have hlt := h.lt
  refine ⟨_, _, ⟨_, _, _, _, _, _, h.putN hi (x' := crashN (st.nd i)) (y' := ⟨.slice sa (st.nd i).vt.v.length sc, .pointer none, .slice none 0 0, .slice none 0 0⟩) (Gi := fun _ => False) (F' := F) (c' := c) hd (fun k hk => .inl hk) hB2.drew hR2 (fun k hk => hk.elim) ((n1.fr hd hY).up hX) hbn hbn (.inl ⟨rfl, rfl⟩) (Nat.le_refl c)
    ⟨hx.pn, hx.pd0, hx.pd1, hx.vt, hx.seen, Nat.zero_le _, Int.le_refl 0, by show (0 : Int) < 12; omega, Nat.zero_le _, Nat.zero_le _, fun p hp => by cases hp⟩ (fun k hk => hk) (fun k hk => by have := hlt k hk; have := hd.size; omega)⟩, fun k hk => .inl (hk.elim id False.elim), Nx.refl _ _ _, hd.mono fun k _ e => e ▸ h.Gn⟩
set_option maxRecDepth 100000 in
set_option maxHeartbeats 4000000 in
theorem crash_any (r nb : Nat) (st : Sy) (c : Nat) (G F : Nat → Prop) (a : Int) (w : World) (h : Rm w r nb st c G F) :
    Calls Try.prog 33 #[.pointer (some ⟨r, 0, none⟩), .int .i64 a] w fun e w' => e = .returned (.int .i64 (if inSy st a then 0 else 2)) ∧ RmTo w r nb (crashS st a) c G F w' := by
  have HI := Lib.hid (is_any' r nb st c G F a w h)
  have HH := Lib.hid h
  cases hb : inSy st a with
  | false =>
    have HB := Lib.hid hb
    clear h hb
    go_enter Try.func33, Try.ntmps33
    go_wp2_with fail
    refine HI.out.mono ?_
    rintro e w2 ⟨rfl, rfl⟩
    rw [HB.out]
    go_wp2_with fail
    go_ret
    refine ⟨rfl, ?_⟩
    unfold crashS
    rw [HB.out]
    exact RmTo.refl HH.out (Fr.refl _ _)
  | true =>
    obtain ⟨i, rfl, hi⟩ := inSy_nat h.wf hb
    obtain ⟨sv, la, lc, -, -, -, -, -, r5, -⟩ := h.cells
    obtain ⟨sv, lv, cs, nv, mv, Gp, h⟩ := h
    have nr := (h.ndr hi)
    have n0 : w.cell? ⟨nb, i * 13, none⟩ = some (.int .u64 (st.nd i).pn) := nr.cell h.nblk (j := 0) rfl
    have n1 : w.cell? ⟨nb, i * 13 + 1, none⟩ = some (.int .i64 (st.nd i).pd) := nr.cell h.nblk (j := 1) rfl
    have n2 : w.cell? ⟨nb, i * 13 + 2, none⟩ = some (.int .u64 (st.nd i).vt.s) := nr.cell h.nblk (j := 2) rfl
    have n3 : w.cell? ⟨nb, i * 13 + 3, none⟩ = some (.int .u64 (st.nd i).vt.n) := nr.cell h.nblk (j := 3) rfl
    have n4 : w.cell? ⟨nb, i * 13 + 4, none⟩ = some (.int .i64 (st.nd i).vt.d) := nr.cell h.nblk (j := 4) rfl
    have n5 : w.cell? ⟨nb, i * 13 + 5, none⟩ = some (nv i).v := nr.cell h.nblk (j := 5) rfl
    have n6 : w.cell? ⟨nb, i * 13 + 6, none⟩ = some (.int .u64 (st.nd i).seen) := nr.cell h.nblk (j := 6) rfl
    have n7 : w.cell? ⟨nb, i * 13 + 7, none⟩ = some (nv i).p := nr.cell h.nblk (j := 7) rfl
    have n8 : w.cell? ⟨nb, i * 13 + 8, none⟩ = some (.int .u64 (st.nd i).bn) := nr.cell h.nblk (j := 8) rfl
    have n9 : w.cell? ⟨nb, i * 13 + 9, none⟩ = some (.int .i64 (st.nd i).bd) := nr.cell h.nblk (j := 9) rfl
    have n10 : w.cell? ⟨nb, i * 13 + 10, none⟩ = some (nv i).a := nr.cell h.nblk (j := 10) rfl
    have n11 : w.cell? ⟨nb, i * 13 + 11, none⟩ = some (nv i).e := nr.cell h.nblk (j := 11) rfl
    have n12 : w.cell? ⟨nb, i * 13 + 12, none⟩ = some (.bool (st.nd i).kn) := nr.cell h.nblk (j := 12) rfl
    have nf := h.nblk.frozen
    have hN12 := h.wf.n12.2.1
    have hiI : (i : Int) < (st.N : Int) := by omega
    obtain ⟨sa, sc, hsv⟩ : ∃ sa sc, (nv i).v = .slice sa (st.nd i).vt.v.length sc := by
      obtain ⟨⟨A, cc, e, -, -⟩, -⟩ := (h.nval i hi).1
      exact ⟨A, cc, e⟩
    rw [hsv] at n5
    have HX := Lib.hid (And.intro h hsv)
    have HB := Lib.hid hb
    clear h nr hb hsv
    go_enter Try.func33, Try.ntmps33
    go_wp2_with fail
    refine HI.out.mono ?_
    rintro e w2 ⟨rfl, rfl⟩
    rw [HB.out]
    go_upto_region 5 with (fail)
    go_region
    all_goals
      go_wp2_with fail
      go_ret
      refine ⟨rfl, ?_⟩
      unfold crashS
      rw [HB.out, if_pos rfl, Int.toNat_natCast]
      exact HX.out.1.crashed hi HX.out.2
end Go.Proofs.Ytkpfgoalohbfeaa
