/- Crash, Start of the document's room. -/
import Derived.Test.YtkpfgoalohbfeaaSRH
import Derived.Test.YtkpfgoalohbfeaaSQ
namespace Go.Proofs.Ytkpfgoalohbfeaa
open Go.RowKit

set_option maxRecDepth 100000 in
set_option maxHeartbeats 8000000 in
theorem rcrash_any (r nb : Nat) (st : Sy) (c : Nat) (G F : Nat → Prop) (a : Int) (w : World) (h : Rf w r nb st c G F) :
    Calls Try.prog 52 #[.pointer (some ⟨r, 0, none⟩), .int .i64 a] w fun e w' => e = .returned (.int .i64 (if inSy st a then 0 else 2)) ∧ RfTo w r nb (crashS st a) c G F w' := by
  have hwf := h.wf
  have hN := hwf.n12
  have H := Lib.hid h
  obtain ⟨sv, lv, cs, nv, mv, Gp, hx⟩ := h
  have r5 : w.cell? ⟨r, 5, none⟩ = some (.slice (some ⟨nb, 0, none⟩) st.N st.N) := hx.blk.cell 5 rfl
  cases hin : inSy st a with
  | false =>
    have hcs : a < 0 ∨ (¬ a < 0 ∧ (st.N : Int) ≤ a) := by
      unfold inSy at hin
      have := of_decide_eq_false hin
      omega
    have HI := Lib.hid hin
    have hN12 := hN.2.1
    clear hx hwf hN hin
    go_enter Try.func52, Try.ntmps52
    rcases hcs with hc | ⟨hc1, hc2⟩
    all_goals
      go_wp2_with fail
      go_ret
      have hst : crashS st a = st := by unfold crashS; rw [if_neg (by rw [HI.out]; simp)]
      rw [hst]
      exact ⟨rfl, RfTo.refl H.out (Fr.refl _ w)⟩
  | true =>
    obtain ⟨i, rfl, hi⟩ := inSy_nat hwf hin
    have hi0 : (0 : Int) ≤ (i : Int) := by omega
    have hi0' : ¬ (i : Int) < 0 := by omega
    have hi1 : (i : Int) < (st.N : Int) := by omega
    have hi2 : ¬ (st.N : Int) ≤ (i : Int) := by omega
    have hR := hx.ndr hi
    have n0 : w.cell? ⟨nb, i * 8, none⟩ = some (.int .u64 ((st.nd i).pn : Int)) := hR.cell hx.nblk (j := 0) rfl
    have n1 : w.cell? ⟨nb, i * 8 + 1, none⟩ = some (.int .i64 (st.nd i).pd) := hR.cell hx.nblk (j := 1) rfl
    have n2 : w.cell? ⟨nb, i * 8 + 2, none⟩ = some (nv i).v := hR.cell hx.nblk (j := 2) rfl
    have n3 : w.cell? ⟨nb, i * 8 + 3, none⟩ = some (.int .u64 ((st.nd i).seen : Int)) := hR.cell hx.nblk (j := 3) rfl
    have n4 : w.cell? ⟨nb, i * 8 + 4, none⟩ = some (nv i).p := hR.cell hx.nblk (j := 4) rfl
    have n5 : w.cell? ⟨nb, i * 8 + 5, none⟩ = some (nv i).a := hR.cell hx.nblk (j := 5) rfl
    have n6 : w.cell? ⟨nb, i * 8 + 6, none⟩ = some (nv i).e := hR.cell hx.nblk (j := 6) rfl
    have n7 : w.cell? ⟨nb, i * 8 + 7, none⟩ = some (.bool (st.nd i).kn) := hR.cell hx.nblk (j := 7) rfl
    have nf := hx.nblk.frozen
    obtain ⟨xa, xc, hxa⟩ : ∃ xa xc, (nv i).v = .slice xa (backV (st.nd i)).length xc := by obtain ⟨⟨A', c', e, -⟩, -⟩ := (hx.nval i hi).1; exact ⟨A', c', e⟩
    obtain ⟨ya, yc, hya⟩ : ∃ ya yc, (nv i).a = .slice ya (st.nd i).val.length yc := by obtain ⟨⟨A', c', e, -⟩, -⟩ := (hx.nval i hi).2.1; exact ⟨A', c', e⟩
    obtain ⟨za, zc, hza⟩ : ∃ za zc, (nv i).e = .slice za (st.nd i).ln.length zc := by obtain ⟨⟨A', c', e, -⟩, -⟩ := (hx.nval i hi).2.2; exact ⟨A', c', e⟩
    obtain ⟨pp, hpp⟩ : ∃ pp, (nv i).p = .pointer pp := by rcases hx.prop i hi with ⟨-, e⟩ | ⟨p, ri, rs, -, e, -⟩; exact ⟨_, e⟩; exact ⟨_, e⟩
    rw [hxa] at n2
    rw [hya] at n5
    rw [hza] at n6
    rw [hpp] at n4
    obtain ⟨w1, hw1⟩ : ∃ w1, w1 = w.alloc (.cells #[.int .u64 ((st.nd i).pn : Int), .int .i64 (st.nd i).pd, .slice xa (backV (st.nd i)).length xc, .int .u64 ((st.nd i).seen : Int), .pointer pp, .slice ya (st.nd i).val.length yc, .slice za (st.nd i).ln.length zc, .bool (st.nd i).kn] 104) := ⟨_, rfl⟩
    have hf1 : Fr (fun _ => False) w w1 := by rw [hw1]; exact (Fr.refl _ w).alloc _
    have hB1 : Blk w1 w.heap.size 104 #[.int .u64 ((st.nd i).pn : Int), .int .i64 (st.nd i).pd, .slice xa (backV (st.nd i)).length xc, .int .u64 ((st.nd i).seen : Int), .pointer pp, .slice ya (st.nd i).val.length yc, .slice za (st.nd i).ln.length zc, .bool (st.nd i).kn] := by rw [hw1]; exact Blk.new _ _ _
    obtain ⟨bc, hbc⟩ : ∃ b, b = w.heap.size := ⟨_, rfl⟩
    rw [← hbc] at hB1
    have h1 := hx.fr hf1 (fun _ _ h => h)
    have hR1 := h1.ndr hi
    have HW1 := Lib.hid (And.intro hw1 hbc)
    have HX := Lib.hid (And.intro h1 (And.intro hR1 (And.intro hf1 (And.intro hin (And.intro hxa (And.intro hx hi))))))
    clear hw1 hbc h1 hR1 hin hxa hx hR hf1 hya hza hpp hwf hN
    go_enter Try.func52, Try.ntmps52
    go_upto_region 4 with (fail)
    rw [← HW1.out.1, ← HW1.out.2]
    clear n0 n1 n2 n3 n4 n5 n6 n7 nf r5
    have r5 : w1.cell? ⟨r, 5, none⟩ = some (.slice (some ⟨nb, 0, none⟩) st.N st.N) := HX.out.1.blk.cell 5 rfl
    have b0 := hB1.cell 0 rfl
    have b1 := hB1.cell 1 rfl
    have b2 := hB1.cell 2 rfl
    have b3 := hB1.cell 3 rfl
    have n0 : w1.cell? ⟨nb, i * 8, none⟩ = some (.int .u64 ((st.nd i).pn : Int)) := HX.out.2.1.cell HX.out.1.nblk (j := 0) rfl
    have n1 : w1.cell? ⟨nb, i * 8 + 1, none⟩ = some (.int .i64 (st.nd i).pd) := HX.out.2.1.cell HX.out.1.nblk (j := 1) rfl
    have n2 : w1.cell? ⟨nb, i * 8 + 2, none⟩ = some (nv i).v := HX.out.2.1.cell HX.out.1.nblk (j := 2) rfl
    have n3 : w1.cell? ⟨nb, i * 8 + 3, none⟩ = some (.int .u64 ((st.nd i).seen : Int)) := HX.out.2.1.cell HX.out.1.nblk (j := 3) rfl
    have n4 : w1.cell? ⟨nb, i * 8 + 4, none⟩ = some (nv i).p := HX.out.2.1.cell HX.out.1.nblk (j := 4) rfl
    have n5 : w1.cell? ⟨nb, i * 8 + 5, none⟩ = some (nv i).a := HX.out.2.1.cell HX.out.1.nblk (j := 5) rfl
    have n6 : w1.cell? ⟨nb, i * 8 + 6, none⟩ = some (nv i).e := HX.out.2.1.cell HX.out.1.nblk (j := 6) rfl
    have n7 : w1.cell? ⟨nb, i * 8 + 7, none⟩ = some (.bool (st.nd i).kn) := HX.out.2.1.cell HX.out.1.nblk (j := 7) rfl
    have nf := HX.out.1.nblk.frozen
    go_cut [4] (fun _ wx => wx = ((((((((w1.setCell ⟨nb, i * 8, none⟩ (.int .u64 ((st.nd i).pn : Int))).setCell ⟨nb, i * 8 + 1, none⟩ (.int .i64 (st.nd i).pd)).setCell ⟨nb, i * 8 + 2, none⟩ (.slice xa (backV (st.nd i)).length xc)).setCell ⟨nb, i * 8 + 3, none⟩ (.int .u64 ((st.nd i).seen : Int))).setCell ⟨nb, i * 8 + 4, none⟩ (.pointer none)).setCell ⟨nb, i * 8 + 5, none⟩ (.slice none 0 0)).setCell ⟨nb, i * 8 + 6, none⟩ (.slice none 0 0)).setCell ⟨nb, i * 8 + 7, none⟩ (.bool false)).drew)
    case first =>
      go_region_law (fail)
      all_goals
        go_wp2_with fail
        go_meet
        exact rfl
    case rest =>
      have HC := Lib.hid hcut
      clear hcut r5 b0 b1 b2 b3 n0 n1 n2 n3 n4 n5 n6 n7 nf hB1
      go_wp2_with fail
      go_ret
      obtain ⟨h1, hR1, hf1, hin, hxa, hx, -⟩ := HX.out
      have hcut := HC.out
      have hB2 := ((((((((h1.nblk.set_ (i * 8 + 0) (.int .u64 ((st.nd i).pn : Int))).set_ (i * 8 + 1) (.int .i64 (st.nd i).pd)).set_ (i * 8 + 2) (.slice xa (backV (st.nd i)).length xc)).set_ (i * 8 + 3) (.int .u64 ((st.nd i).seen : Int))).set_ (i * 8 + 4) (.pointer none)).set_ (i * 8 + 5) (.slice none 0 0)).set_ (i * 8 + 6) (.slice none 0 0)).set_ (i * 8 + 7) (.bool false)).fr
        (Fr.refl (fun _ => False) _).drew (fun h => h)
      have hR2 := (((((((hR1.set_ hi (j0 := 0) (by omega) (.int .u64 ((st.nd i).pn : Int))).set_ hi (j0 := 1) (by omega) (.int .i64 (st.nd i).pd)).set_ hi (j0 := 2) (by omega) (.slice xa (backV (st.nd i)).length xc)).set_ hi (j0 := 3) (by omega) (.int .u64 ((st.nd i).seen : Int))).set_ hi (j0 := 4) (by omega) (.pointer none)).set_ hi (j0 := 5) (by omega) (.slice none 0 0)).set_ hi (j0 := 6) (by omega) (.slice none 0 0)).set_ hi (j0 := 7) (by omega) (.bool false)
      simp only [Nat.add_zero] at hB2
      rw [← hcut] at hB2
      have hf2 : Fr (fun k => k = nb) w1 wc := by
        rw [hcut]
        exact ((((((((Fr.set1 w1 nb (i * 8) (.int .u64 ((st.nd i).pn : Int))).setCell (p := ⟨nb, i * 8 + 1, none⟩) (fun _ => rfl) _).setCell (p := ⟨nb, i * 8 + 2, none⟩) (fun _ => rfl) _).setCell (p := ⟨nb, i * 8 + 3, none⟩) (fun _ => rfl) _).setCell (p := ⟨nb, i * 8 + 4, none⟩) (fun _ => rfl) _).setCell (p := ⟨nb, i * 8 + 5, none⟩) (fun _ => rfl) _).setCell (p := ⟨nb, i * 8 + 6, none⟩) (fun _ => rfl) _).setCell (p := ⟨nb, i * 8 + 7, none⟩) (fun _ => rfl) _).drew
      have hst : crashS st (i : Int) = st.upd i (crashN (st.nd i)) := by unfold crashS; rw [if_pos hin, Int.toNat_natCast]
      rw [hst]
      have hwfc : NWf st.q (crashN (st.nd i)) := by
        have hn := h1.wf.nd i hi
        exact ⟨hn.pn, hn.pd0, hn.pd1, hn.vt, hn.seen, Nat.zero_le _, Int.le_refl 0, by show (0 : Int) < 12; omega, Nat.zero_le _, Nat.zero_le _, fun p hp => by cases hp⟩
      obtain ⟨n1, n2, n3⟩ := h1.nval i hi
      rw [hxa] at n1
      have hX : ∀ k, Ro F (fun k => G k ∨ False) k → Ro F G k := fun k hk => hk.imp id (fun h => h.elim id False.elim)
      have hput := h1.putN hi (x' := crashN (st.nd i)) (y' := ⟨.slice xa (backV (st.nd i)).length xc, .pointer none, .slice none 0 0, .slice none 0 0⟩) (Gi := fun _ => False) (F' := F) (c' := c) hf2
        (fun k hk => .inl hk) hB2 hR2 (fun k hk => hk.elim) ((n1.up hf2 (fun k hk => .inr (hk ▸ h1.Gn))).mono hX) (h1.z0 i hi) ⟨byt_nil _, fun k hk => by simp [Value.ownBlock] at hk⟩ ⟨byt_nil _, fun k hk => by simp [Value.ownBlock] at hk⟩ (.inl ⟨rfl, rfl⟩) (Nat.le_refl c) hwfc (fun _ h => h) (fun k hk => by have := h1.lt k hk; have := hf2.size; omega)
      exact ⟨rfl, _, _, ⟨_, _, _, _, _, _, hput⟩, fun k hk => .inl (hk.elim id False.elim), Nx.refl _ _ _, hf1.none_up.tr (hf2.mono fun k _ e => e ▸ h1.Gn), fun _ h => h⟩
end Go.Proofs.Ytkpfgoalohbfeaa
