/- Look; two letters compared. -/
import Derived.Test.YtkpfgoalohbfeaaSS
namespace Go.Proofs.Ytkpfgoalohbfeaa
open Go.RowKit

theorem Cpy.down {w0 w1 w' : World} {v : Value} {l : List Vt} {vs : List Value} (h : Cpy w1 w' v l vs) (hf : Fr (fun _ => False) w0 w1) : Cpy w0 w' v l vs :=
  ⟨own_up (own_base h.row) (fun k hk => Nat.le_trans hf.size (h.row.lt k hk).1), h.len, fun i p s h1 h2 => own_up (own_base (h.val i p s h1 h2)) (fun k hk => Nat.le_trans hf.size ((h.val i p s h1 h2).lt k hk).1), hf.tr h.fr⟩
def LookP (st : Sy) (a : Int) (w : World) (e : Ending) (w' : World) : Prop :=
  (st.atL a = none ∧ e = .returned (.tuple #[.agg mail0, .bool false]) ∧ Fr (fun _ => False) w w') ∨
  ∃ m va vc vs, st.atL a = some m ∧ e = .returned (.tuple #[mailV m (.slice va m.vs.length vc), .bool true]) ∧ Cpy w w' (.slice va m.vs.length vc) m.vs vs

set_option maxRecDepth 100000 in
set_option maxHeartbeats 4000000 in
theorem look_any (r nb : Nat) (st : Sy) (c : Nat) (G F : Nat → Prop) (a : Int) (w : World) (h : Rm w r nb st c G F) :
    Calls Try.prog 29 #[.pointer (some ⟨r, 0, none⟩), .int .i64 a] w (LookP st a w) := by
  obtain ⟨w1, hw1⟩ : ∃ w1, w1 = w.alloc (.cells mail0 68) := ⟨_, rfl⟩
  have hf1 : Fr (fun _ => False) w w1 := by rw [hw1]; exact (Fr.refl _ w).alloc _
  have hB1 : Blk w1 w.heap.size 68 mail0 := by rw [hw1]; exact Blk.new _ _ _
  obtain ⟨br, hbr⟩ : ∃ b, b = w.heap.size := ⟨_, rfl⟩
  rw [← hbr] at hB1
  have h := h.none_ hf1
  have HT := Lib.hid (there_any r nb st c G F a w1 h)
  have HW := Lib.hid (And.intro hw1 hbr)
  have HF := Lib.hid (And.intro hf1 hbr)
  have hm0 : mail0 = #[.int .i64 0, .int .i64 0, .int .i64 0, .int .u64 0, .int .i64 0, .slice none 0 0] := rfl
  rw [hm0] at hw1 hB1
  rw [hm0] at HW
  clear hw1 hbr hf1 hm0
  cases ht : thereB st a with
  | false =>
    have HN := Lib.hid (And.intro ht (atL_none ht))
    have r0 := hB1.cell 0 rfl
    have r1 := hB1.cell 1 rfl
    have r2 := hB1.cell 2 rfl
    have r3 := hB1.cell 3 rfl
    have r4 := hB1.cell 4 rfl
    have r5 := hB1.cell 5 rfl
    have rf := hB1.frozen
    have hrow := row6 hB1 (.int .i64 0) (.int .i64 0) (.int .i64 0) (.int .u64 0) (.int .i64 0) (.slice none 0 0)
    have HRow := Lib.hid hrow
    clear ht h hrow hB1
    go_enter Try.func29, Try.ntmps29
    go_upto_region 1 with (fail)
    rw [← HW.out.1, ← HW.out.2]
    go_wp2_with fail
    refine HT.out.mono ?_
    rintro e w2 ⟨rfl, rfl⟩
    rw [HN.out.1]
    go_wp2_with fail
    refine bodyPost_ret (results_row_tmp rfl _ _ br 68 #[.int .i64 0, .int .i64 0, .int .i64 0, .int .u64 0, .int .i64 0, .slice none 0 0] (0, 0) _ rfl HRow.out.1 Try.underlying68 rfl (by kernel_rfl)) rfl (.inl ⟨HN.out.2, rfl, ?_⟩)
    exact HF.out.1.trans HRow.out.2 (fun x hx h => by rcases h with h | h; exact h; have := HF.out.2; omega)
  | true =>
    obtain ⟨m, h1, h2, h3⟩ := atL_some ht
    obtain ⟨sv, lv, cs, nv, mv, Gp, h⟩ := h
    have hal : a.toNat < st.l.length := (List.getElem?_eq_some_iff.1 h2).1
    obtain ⟨v, hv⟩ : ∃ v, mv[a.toNat]? = some v := ⟨_, List.getElem?_eq_getElem (by rw [h.mlen]; exact hal)⟩
    have hvl := h.lval a.toNat m v h2 hv
    have hm := h.wf.lt m (List.mem_of_getElem? h2)
    obtain ⟨g, lc, cur, hlv, -, hgB, hlc, hlcm, hcs, htk⟩ : ∃ g cap cur, lv = .slice (some ⟨g, 0, none⟩) st.l.length cap ∧ 0 ≤ g ∧ Blk w1 g 68 cur ∧ st.l.length ≤ cap ∧ cap ≤ maxLen ∧ cur.size = cap * 6 ∧ cur.toList.take (st.l.length * 6) = flatM st.l mv := by
      rcases own_form h.lrow with ⟨_, h0, _⟩ | h1
      · omega
      · exact h1
    subst hlv
    have r6 : w1.cell? ⟨r, 6, none⟩ = some (.slice (some ⟨g, 0, none⟩) st.l.length lc) := h.blk.cell 6 rfl
    obtain ⟨q0, q1, q2, q3, q4, q5⟩ := flatM_get st.l mv a.toNat m _ h2 hv
    have l0 := own_cell h.lrow _ q0
    have l1 := own_cell h.lrow _ q1
    have l2 := own_cell h.lrow _ q2
    have l3 := own_cell h.lrow _ q3
    have l4 := own_cell h.lrow _ q4
    have l5 := own_cell h.lrow _ q5
    have hl2 := h.wf.len
    have ho := own_any m v _ w1 hvl (by have := hm.len; omega) (fun p hp => by have := (hm.vs p hp).l; omega)
    have HO := Lib.hid ho
    have HN := Lib.hid (And.intro ht h1)
    have ha0 : 0 ≤ a := by omega
    have ha1 : a < (st.l.length : Int) := by omega
    obtain ⟨⟨vA, vC, rfl, -⟩, -⟩ := hvl
    have hHB := Lib.hid hB1
    clear ht h1 h2 h3 ho h hm hgB hcs htk q0 q1 q2 q3 q4 q5 hlc hlcm hv hB1
    go_enter Try.func29, Try.ntmps29
    go_upto_region 1 with (fail)
    rw [← HW.out.1, ← HW.out.2]
    clear HW
    go_wp2_with fail
    refine HT.out.mono ?_
    rintro e w2 ⟨rfl, rfl⟩
    rw [HN.out.1]
    go_wp2_with fail
    refine HO.out.mono ?_
    rintro e w3 ⟨va, vc, vs, rfl, hC⟩
    have hB3 := hHB.out.fr hC.fr (fun h => h)
    have HC := Lib.hid hC
    clear r6 l0 l1 l2 l3 l4 l5 hC HO HT
    have r0 := hB3.cell 0 rfl
    have r1 := hB3.cell 1 rfl
    have r2 := hB3.cell 2 rfl
    have r3 := hB3.cell 3 rfl
    have r4 := hB3.cell 4 rfl
    have r5 := hB3.cell 5 rfl
    have rf := hB3.frozen
    have hrow := row6 hB3 (.int .i64 m.k) (.int .i64 (m.fr : Int)) (.int .i64 (m.dst : Int)) (.int .u64 (m.n : Int)) (.int .i64 m.d) (.slice va m.vs.length vc)
    have HRow := Lib.hid (And.intro hrow hB3)
    clear hrow hB3
    simp only [mailV]
    go_wp2_with fail
    refine bodyPost_ret (results_row_tmp rfl _ _ br 68 #[.int .i64 m.k, .int .i64 (m.fr : Int), .int .i64 (m.dst : Int), .int .u64 (m.n : Int), .int .i64 m.d, .slice va m.vs.length vc] (0, 0) _ rfl HRow.out.1.1 Try.underlying68 rfl (by kernel_rfl)) rfl (.inr ⟨m, va, vc, vs, HN.out.2, rfl, ?_⟩)
    have hB := HRow.out.2
    exact (HC.out.down HF.out.1).off HRow.out.1.2 (fun k hk => ⟨by have := HF.out.2; omega, _, _, hk ▸ hB, by decide, by decide⟩)

set_option maxRecDepth 100000 in
set_option maxHeartbeats 4000000 in
theorem msame_any (m : Lt) (v u : Value) (X Y : Nat → Prop) (w : World) (hv : VtL w v m.vs X) (hu : VtL w u m.vs Y) :
    Calls Try.prog 31 #[mailV m v, mailV m u] w fun e w' => e = .returned (.bool true) ∧ Fr (fun _ => False) w w' := by
  obtain ⟨A, c, rfl⟩ : ∃ A c, v = .slice A m.vs.length c := by obtain ⟨⟨A, c, h, -⟩, -⟩ := hv; exact ⟨A, c, h⟩
  obtain ⟨B, d, rfl⟩ : ∃ A c, u = .slice A m.vs.length c := by obtain ⟨⟨A, c, h, -⟩, -⟩ := hu; exact ⟨A, c, h⟩
  obtain ⟨w1, hw1⟩ : ∃ w1, w1 = w.alloc (.cells #[.int .i64 m.k, .int .i64 (m.fr : Int), .int .i64 (m.dst : Int), .int .u64 (m.n : Int), .int .i64 m.d, .slice A m.vs.length c] 68) := ⟨_, rfl⟩
  obtain ⟨w2, hw2⟩ : ∃ w2, w2 = w1.alloc (.cells #[.int .i64 m.k, .int .i64 (m.fr : Int), .int .i64 (m.dst : Int), .int .u64 (m.n : Int), .int .i64 m.d, .slice B m.vs.length d] 68) := ⟨_, rfl⟩
  have hf1 : Fr (fun _ => False) w w1 := by rw [hw1]; exact (Fr.refl _ w).alloc _
  have hf2 : Fr (fun _ => False) w1 w2 := by rw [hw2]; exact (Fr.refl _ w1).alloc _
  have hB1 : Blk w1 w.heap.size 68 #[.int .i64 m.k, .int .i64 (m.fr : Int), .int .i64 (m.dst : Int), .int .u64 (m.n : Int), .int .i64 m.d, .slice A m.vs.length c] := by rw [hw1]; exact Blk.new _ _ _
  have hB2 : Blk w2 w1.heap.size 68 #[.int .i64 m.k, .int .i64 (m.fr : Int), .int .i64 (m.dst : Int), .int .u64 (m.n : Int), .int .i64 m.d, .slice B m.vs.length d] := by rw [hw2]; exact Blk.new _ _ _
  have hB1 := hB1.fr hf2 (fun h => h)
  have hz : w1.heap.size = w.heap.size + 1 := by rw [hw1]; simp
  rw [hz] at hB2
  obtain ⟨b, hb⟩ : ∃ b, b = w.heap.size := ⟨_, rfl⟩
  rw [← hb] at hB1 hB2
  have hrs := rsame_any _ _ m.vs m.vs _ _ w2 (hv.up (hf1.tr hf2) (fun _ h => h.elim)) (hu.up (hf1.tr hf2) (fun _ h => h.elim))
  have HRs := Lib.hid hrs
  have HW := Lib.hid (And.intro hw1 (And.intro hw2 (And.intro hb hz)))
  have HF := Lib.hid (hf1.tr hf2)
  clear hw1 hw2 hf1 hf2 hb hrs hv hu hz
  have a0 := hB1.cell 0 rfl
  have a1 := hB1.cell 1 rfl
  have a2 := hB1.cell 2 rfl
  have a3 := hB1.cell 3 rfl
  have a4 := hB1.cell 4 rfl
  have a5 := hB1.cell 5 rfl
  have c0 := hB2.cell 0 rfl
  have c1 := hB2.cell 1 rfl
  have c2 := hB2.cell 2 rfl
  have c3 := hB2.cell 3 rfl
  have c4 := hB2.cell 4 rfl
  have c5 := hB2.cell 5 rfl
  simp only [mailV]
  go_enter Try.func31, Try.ntmps31
  go_upto_region 1 with (fail)
  rw [← HW.out.1, ← HW.out.2.1, ← HW.out.2.2.1]
  clear HW
  go_wp2_with fail
  refine HRs.out.mono ?_
  rintro e w3 ⟨bb, rfl, hbb, hf3⟩
  obtain rfl : bb = true := hbb.2 rfl
  have HF3 := Lib.hid (HF.out.tr hf3)
  clear hbb hf3
  go_wp2_with fail
  go_ret
  exact ⟨rfl, HF3.out⟩
end Go.Proofs.Ytkpfgoalohbfeaa
