/- Look, Drop, Twice of the document's room. -/
import Derived.Test.YtkpfgoalohbfeaaSRC
import Derived.Test.YtkpfgoalohbfeaaSK
namespace Go.Proofs.Ytkpfgoalohbfeaa
open Go.RowKit

theorem er_next {α : Type} {l : List α} {a j : Nat} {x : α} (h : l[j]? = some x) (hj : j ≠ a) : (l.take (j + 1)).eraseIdx a = (l.take j).eraseIdx a ++ [x] := by
  have hlt := (List.getElem?_eq_some_iff.1 h).1
  rw [List.take_add_one, h]
  show (l.take j ++ [x]).eraseIdx a = _
  by_cases hja : j < a
  · rw [List.eraseIdx_of_length_le (by simp; omega), List.eraseIdx_of_length_le (by simp; omega)]
  · rw [List.eraseIdx_append_of_lt_length (by simp; omega)]
theorem er_same {α : Type} {l : List α} {a : Nat} {x : α} (h : l[a]? = some x) : (l.take (a + 1)).eraseIdx a = (l.take a).eraseIdx a := by
  have hlt := (List.getElem?_eq_some_iff.1 h).1
  rw [List.take_add_one, h]
  show (l.take a ++ [x]).eraseIdx a = _
  rw [List.eraseIdx_of_length_le (l := l.take a) (by simp; omega), List.eraseIdx_append_of_length_le (by simp; omega)]
  rw [show a - (l.take a).length = 0 by simp; omega]
  simp
section
variable {w w1 w2 w3 w' : World} {r nb c : Nat} {st : Sy} {G F : Nat → Prop} {sv lv lv' : Value} {cs : Array Value} {nv : Nat → Rv} {mv : List Value} {Gp : Nat → Nat → Prop} {a : Nat}
theorem RfX.redo (h : RfX w r nb st c G F sv lv cs nv mv Gp) (hf : Fr (fun _ => False) w w') (hrow : w'.ownsRow w.heap.size 68 6 lv' (st.l.eraseIdx a).length (flatM (st.l.eraseIdx a) (mv.eraseIdx a))) :
    RfTo w r nb (st.cut a) c G F (w'.setCell ⟨r, 6, none⟩ lv') := by
  have hlt := h.lt
  have hs1 := hf.size
  have hrF := h.GF r h.Gr
  have hrlt := hlt r hrF
  have hsz : (w'.setCell ⟨r, 6, none⟩ lv').heap.size = w'.heap.size := by simp
  have hfx : Fr (fun k => k = r) w (w'.setCell ⟨r, 6, none⟩ lv') := Fr.setCell (X := fun k => k = r) hf.none_up (p := ⟨r, 6, none⟩) (fun _ => rfl) _
  have hg : ∀ k, lv'.ownBlock = some k → w.heap.size ≤ k ∧ k < w'.heap.size := fun k hk => hrow.lt k hk
  have hYR : ∀ k, k = r → Ro F G k := fun k hk => .inr (hk ▸ h.Gr)
  have hXX : ∀ k, Ro (fun k => F k ∨ (w.heap.size ≤ k ∧ k < w'.heap.size)) (fun k => G k ∨ lv'.ownBlock = some k) k → Ro F G k := fun k hk => by
    rcases hk with h1 | h1 | h1
    · exact .inl fun h2 => h1 (.inl h2)
    · exact .inr h1
    · exact .inl fun h2 => by have := hlt k h2; have := (hg k h1).1; omega
  have hB := (h.blk.fr hf (fun h => h)).set_ 6 lv'
  have hput := h.putL (l' := st.l.eraseIdx a) (mv' := mv.eraseIdx a) (lv' := lv') (F' := fun k => F k ∨ (w.heap.size ≤ k ∧ k < w'.heap.size)) hfx
    (fun k hk => .inl hk)
    (by simpa [rmC] using hB) (own_fr (own_base hrow) (Fr.set1 w' r 6 lv') (fun k hk e => by have := (hg k hk).1; omega)) (by rw [List.length_eraseIdx, List.length_eraseIdx, h.mlen])
    (fun k hk => .inr ⟨fun h2 => by have := hlt k h2; have := (hg k hk).1; omega, .inr (hg k hk)⟩)
    (fun i m' v' hm' hv' => by
      rw [List.getElem?_eraseIdx] at hm' hv'
      by_cases hi : i < a
      · rw [if_pos hi] at hm' hv'
        exact ((h.lval i m' v' hm' hv').up hfx hYR).mono hXX
      · rw [if_neg hi] at hm' hv'
        exact ((h.lval (i + 1) m' v' hm' hv').up hfx hYR).mono hXX)
    (h.wf.cut a) (fun k hk => .inl hk) (fun k hk => by rcases hk with hk | hk; have := hlt k hk; omega; omega)
  refine ⟨_, _, ⟨_, _, _, _, _, _, hput⟩, fun k hk => ?_, fun k hk => ?_, hfx.mono fun k _ e => e ▸ h.Gr, fun k hk => .inl hk⟩
  · rcases hk with hk | hk
    · exact .inl hk
    · exact .inr (by have := hg k hk; omega)
  · rcases hk with hk | hk
    · exact .inl hk
    · exact .inr (by omega)
end
/-- What Look leaves: the letter that stands there, none of it copied. -/
def RLookP (st : Sy) (a : Int) (F G : Nat → Prop) (w : World) (e : Ending) (w' : World) : Prop :=
  (st.atL a = none ∧ e = .returned (.tuple #[.agg mail0, .bool false]) ∧ Fr (fun _ => False) w w') ∨
  ∃ m va vc, st.atL a = some m ∧ e = .returned (.tuple #[mailV m (.slice va m.vs.length vc), .bool true]) ∧ VtL w (.slice va m.vs.length vc) m.vs (Ro F G) ∧ Fr (fun _ => False) w w'

set_option maxRecDepth 100000 in
set_option maxHeartbeats 4000000 in
theorem rlook_any (r nb : Nat) (st : Sy) (c : Nat) (G F : Nat → Prop) (a : Int) (w : World) (h : Rf w r nb st c G F) :
    Calls Try.prog 69 #[.pointer (some ⟨r, 0, none⟩), .int .i64 a] w (RLookP st a F G w) := by
  obtain ⟨w1, hw1⟩ : ∃ w1, w1 = w.alloc (.cells mail0 68) := ⟨_, rfl⟩
  have hf1 : Fr (fun _ => False) w w1 := by rw [hw1]; exact (Fr.refl _ w).alloc _
  have hB1 : Blk w1 w.heap.size 68 mail0 := by rw [hw1]; exact Blk.new _ _ _
  obtain ⟨br, hbr⟩ : ∃ b, b = w.heap.size := ⟨_, rfl⟩
  rw [← hbr] at hB1
  have HW := Lib.hid (And.intro hw1 hbr)
  have HF := Lib.hid (And.intro hf1 hbr)
  have hm0 : mail0 = #[.int .i64 0, .int .i64 0, .int .i64 0, .int .u64 0, .int .i64 0, .slice none 0 0] := rfl
  rw [hm0] at hw1 hB1
  rw [hm0] at HW
  obtain ⟨sv, lv, cs, nv, mv, Gp, h0⟩ := h
  have h := h0.fr hf1 (fun _ _ h => h)
  obtain ⟨la, lc, hlv⟩ := own_sl5 h.lrow
  have hl2 := h.wf.len
  clear hw1 hbr hm0
  cases ht : thereB st a with
  | false =>
    have hnn := atL_none ht
    have r6 : w1.cell? ⟨r, 6, none⟩ = some (.slice la st.l.length lc) := by rw [← hlv]; exact h.blk.cell 6 rfl
    have r0 := hB1.cell 0 rfl
    have r1 := hB1.cell 1 rfl
    have r2 := hB1.cell 2 rfl
    have r3 := hB1.cell 3 rfl
    have r4 := hB1.cell 4 rfl
    have r5 := hB1.cell 5 rfl
    have rf := hB1.frozen
    have hrow := row6 hB1 (.int .i64 0) (.int .i64 0) (.int .i64 0) (.int .u64 0) (.int .i64 0) (.slice none 0 0)
    have HRow := Lib.hid hrow
    rw [thereB_eq] at ht
    have hcs : a < 0 ∨ (¬ a < 0 ∧ (st.l.length : Int) ≤ a) := by
      have := of_decide_eq_false ht
      omega
    have HN := Lib.hid hnn
    clear ht h hrow hB1 hnn h0 hlv hf1
    go_enter Try.func69, Try.ntmps69
    go_upto_region 1 with (fail)
    rw [← HW.out.1, ← HW.out.2]
    clear HW
    rcases hcs with hc | ⟨hc1, hc2⟩
    all_goals
      go_wp2_with fail
      refine bodyPost_ret (results_row_tmp rfl _ _ br 68 #[.int .i64 0, .int .i64 0, .int .i64 0, .int .u64 0, .int .i64 0, .slice none 0 0] (0, 0) _ rfl HRow.out.1 Try.underlying68 rfl (by kernel_rfl)) rfl (.inl ⟨HN.out, rfl, ?_⟩)
      exact HF.out.1.trans HRow.out.2 (fun x hx h => by rcases h with h | h; exact h; have := HF.out.2; omega)
  | true =>
    obtain ⟨m, h1, h2, h3⟩ := atL_some ht
    have hal : a.toNat < st.l.length := (List.getElem?_eq_some_iff.1 h2).1
    obtain ⟨v, hv⟩ : ∃ v, mv[a.toNat]? = some v := ⟨_, List.getElem?_eq_getElem (by rw [h.mlen]; exact hal)⟩
    have hvl := h0.lval a.toNat m v h2 hv
    obtain ⟨g, lc, cur, hlv, -, hgB, hlc, hlcm, hcs, htk⟩ : ∃ g cap cur, lv = .slice (some ⟨g, 0, none⟩) st.l.length cap ∧ 0 ≤ g ∧ Blk w1 g 68 cur ∧ st.l.length ≤ cap ∧ cap ≤ maxLen ∧ cur.size = cap * 6 ∧ cur.toList.take (st.l.length * 6) = flatM st.l mv := by
      rcases own_form h.lrow with ⟨_, h0, _⟩ | h1
      · omega
      · exact h1
    subst hlv
    have r6 : w1.cell? ⟨r, 6, none⟩ = some (.slice (some ⟨g, 0, none⟩) st.l.length lc) := h.blk.cell 6 rfl
    obtain ⟨q0, q1, q2, q3, q4, q5⟩ := flatM_get st.l mv a.toNat m _ h2 hv
    have l0 := own_cell h.lrow _ q0
    have l1 := own_cell h.lrow _ q1
    have l2 := own_cell h.lrow _ q2
    have l3 := own_cell h.lrow _ q3
    have l4 := own_cell h.lrow _ q4
    have l5 := own_cell h.lrow _ q5
    have ha0 : ¬ a < 0 := by omega
    have ha00 : 0 ≤ a := by omega
    have ha1 : a < (st.l.length : Int) := by omega
    have ha2 : ¬ (st.l.length : Int) ≤ a := by omega
    obtain ⟨vA, vC, rfl⟩ : ∃ A c, v = .slice A m.vs.length c := by obtain ⟨⟨A, c, h, -⟩, -⟩ := hvl; exact ⟨A, c, h⟩
    have r0 := hB1.cell 0 rfl
    have r1 := hB1.cell 1 rfl
    have r2 := hB1.cell 2 rfl
    have r3 := hB1.cell 3 rfl
    have r4 := hB1.cell 4 rfl
    have r5 := hB1.cell 5 rfl
    have rf := hB1.frozen
    have hrow := row6 hB1 (.int .i64 m.k) (.int .i64 (m.fr : Int)) (.int .i64 (m.dst : Int)) (.int .u64 (m.n : Int)) (.int .i64 m.d) (.slice vA m.vs.length vC)
    have hv0 := hvl
    have HRow := Lib.hid hrow
    have HN := Lib.hid (And.intro h1 hv0)
    clear ht h1 h2 h3 h hgB hcs htk q0 q1 q2 q3 q4 q5 hlc hlcm hv hB1 hrow hvl hv0 h0 hf1
    go_enter Try.func69, Try.ntmps69
    go_upto_region 1 with (fail)
    rw [← HW.out.1, ← HW.out.2]
    clear HW
    go_wp2_with fail
    refine bodyPost_ret (results_row_tmp rfl _ _ br 68 #[.int .i64 m.k, .int .i64 (m.fr : Int), .int .i64 (m.dst : Int), .int .u64 (m.n : Int), .int .i64 m.d, .slice vA m.vs.length vC] (0, 0) _ rfl HRow.out.1 Try.underlying68 rfl (by kernel_rfl)) rfl (.inr ⟨m, vA, vC, HN.out.1, rfl, HN.out.2, ?_⟩)
    exact HF.out.1.trans HRow.out.2 (fun x hx h => by rcases h with h | h; exact h; have := HF.out.2; omega)
set_option maxRecDepth 100000 in
set_option maxHeartbeats 8000000 in
theorem rdrop_any (r nb : Nat) (st : Sy) (c : Nat) (G F : Nat → Prop) (a : Int) (w : World) (h : Rf w r nb st c G F) :
    Calls Try.prog 50 #[.pointer (some ⟨r, 0, none⟩), .int .i64 a] w fun e w' => e = .returned (.bool (thereB st a)) ∧ RfTo w r nb (dropS st a) c G F w' := by
  obtain ⟨i0, hi0, hz0, hz1, hz2⟩ := info_parts mlinfo
  have HLk := Lib.hid (rlook_any r nb st c G F a w h)
  have H := Lib.hid h
  have hwf := h.wf
  clear h
  go_enter Try.func50, Try.ntmps50
  go_wp2_with fail
  refine HLk.out.mono ?_
  rintro e w1 (⟨hno, rfl, hf1⟩ | ⟨m, va, vc, hm, rfl, hv, hf1⟩)
  · have HN := Lib.hid (And.intro hno hf1)
    clear hno hf1 hwf
    obtain ⟨w2, hw2⟩ : ∃ w2, w2 = w1.alloc (.cells #[.int .i64 0, .int .i64 0, .int .i64 0, .int .u64 0, .int .i64 0, .slice none 0 0] 68) := ⟨_, rfl⟩
    have HW2 := Lib.hid hw2
    unfold mail0
    clear hw2
    go_upto_region 2 with (fail)
    rw [← HW2.out]
    go_wp2_with fail
    go_ret
    have hd : dropS st a = st := by unfold dropS; rw [HN.out.1]
    have ht : thereB st a = false := by unfold thereB; rw [HN.out.1]; rfl
    rw [hd, ht]
    exact ⟨rfl, RfTo.refl H.out (by rw [HW2.out]; exact HN.out.2.alloc _)⟩
  · obtain ⟨w2, hw2⟩ : ∃ w2, w2 = w1.alloc (.cells #[.int .i64 m.k, .int .i64 (m.fr : Int), .int .i64 (m.dst : Int), .int .u64 (m.n : Int), .int .i64 m.d, .slice va m.vs.length vc] 68) := ⟨_, rfl⟩
    have hf2 : Fr (fun _ => False) w w2 := by rw [hw2]; exact hf1.alloc _
    obtain ⟨sv, lv, cs, nv, mv, Gp, h⟩ := H.out
    have ht : thereB st a = true := by unfold thereB; rw [hm]; rfl
    obtain ⟨m', h1, h2, h3⟩ := atL_some ht
    obtain rfl : m = m' := by rw [hm] at h1; injection h1
    obtain ⟨n, hn⟩ : ∃ n, n = a.toNat := ⟨_, rfl⟩
    rw [← hn] at h2 h3
    have hnl : n < st.l.length := (List.getElem?_eq_some_iff.1 h2).1
    obtain ⟨g, lc, cur, hlv, -, hgB, hlc, hlcm, hcs, htk⟩ : ∃ g cap cur, lv = .slice (some ⟨g, 0, none⟩) st.l.length cap ∧ 0 ≤ g ∧ Blk w g 68 cur ∧ st.l.length ≤ cap ∧ cap ≤ maxLen ∧ cur.size = cap * 6 ∧ cur.toList.take (st.l.length * 6) = flatM st.l mv := by
      rcases own_form h.lrow with ⟨_, h0, _⟩ | h1
      · omega
      · exact h1
    subst hlv
    have hfin : dropS st a = st.cut n := by unfold dropS; rw [hm, hn]
    have HW2 := Lib.hid hw2
    have HX := Lib.hid (And.intro h (And.intro hf2 (And.intro h2 (And.intro hfin ht))))
    have hl200 := hwf.len
    simp only [mailV]
    subst h3
    clear hw2 hf2 hgB hlc hlcm hcs htk h h1 h2 hm hv hf1 hfin ht hwf hn HLk
    go_upto_region 4 with (fail)
    rw [← HW2.out]
    clear HW2
    go_wp2_with fail
    go_loopg [7, 8] st.l.length (fun g' x7 x8 wr => ∃ (j : Nat) (va' : Option Addr) (vc' : Nat), j + g' = st.l.length ∧ x8 = .int .i64 j ∧ x7 = .slice va' ((st.l.take j).eraseIdx n).length vc' ∧ Fr (fun _ => False) w wr ∧
      wr.ownsRow w.heap.size 68 6 (.slice va' ((st.l.take j).eraseIdx n).length vc') ((st.l.take j).eraseIdx n).length (flatM ((st.l.take j).eraseIdx n) ((mv.take j).eraseIdx n)))
    case atStart => exact ⟨0, none, 0, by omega, rfl, by simp, HX.out.2.1, by simpa [flatM] using World.ownsRow_nil w2 w.heap.size 68 6⟩
    case round =>
      obtain ⟨j, xa, xc, hj, rfl, rfl, hfr, hrow⟩ := hrel
      have HJ := Lib.hid hj
      have hj' : j ≤ st.l.length := by omega
      have h := HX.out.1.fr hfr (fun _ _ h => h)
      have r6 : wr.cell? ⟨r, 6, none⟩ = some (.slice (some ⟨g, 0, none⟩) st.l.length lc) := h.blk.cell 6 rfl
      clear hj
      by_cases hjl : j < st.l.length
      · obtain ⟨y, hy⟩ : ∃ y, st.l[j]? = some y := ⟨_, List.getElem?_eq_getElem hjl⟩
        obtain ⟨u, hu⟩ : ∃ u, mv[j]? = some u := ⟨_, List.getElem?_eq_getElem (by rw [h.mlen]; exact hjl)⟩
        have hj0 : (0 : Int) ≤ (j : Int) := by omega
        have hj1 : (j : Int) < (st.l.length : Int) := by omega
        by_cases hjn : j = n
        · subst hjn
          have e1 := er_same hy
          have e2 := er_same hu
          have HE := Lib.hid (And.intro e1 (And.intro e2 (And.intro hfr hrow)))
          clear e1 e2 hy hu h hfr hrow
          go_wp2_with fail
          go_roundg (st.l.length - (j + 1))
          case measure => have := HJ.out; omega
          case rel => exact ⟨j + 1, xa, xc, by have := HJ.out; omega, by go_num, by rw [HE.out.1], HE.out.2.2.1, by rw [HE.out.1, HE.out.2.1]; exact HE.out.2.2.2⟩
        · have hjn' : ((j : Int) == (n : Int)) = false := by simp; omega
          have hjn'' : ¬ (j : Int) = (n : Int) := by omega
          have e1 := er_next hy hjn
          have e2 := er_next hu hjn
          obtain ⟨q0, q1, q2, q3, q4, q5⟩ := flatM_get st.l mv j y u hy hu
          have l0 := own_cell h.lrow _ q0
          have l1 := own_cell h.lrow _ q1
          have l2 := own_cell h.lrow _ q2
          have l3 := own_cell h.lrow _ q3
          have l4 := own_cell h.lrow _ q4
          have l5 := own_cell h.lrow _ q5
          have hlen : ((mv.take j).eraseIdx n).length = ((st.l.take j).eraseIdx n).length := by
            rw [List.length_eraseIdx, List.length_eraseIdx, List.length_take, List.length_take, h.mlen]
          obtain ⟨uA, uC, rfl⟩ : ∃ A c, u = .slice A y.vs.length c := by obtain ⟨⟨A, c, h, -⟩, -⟩ := h.lval j y u hy hu; exact ⟨A, c, h⟩
          obtain ⟨w4, hw4⟩ : ∃ w4, w4 = wr.alloc (.cells #[.int .i64 y.k, .int .i64 (y.fr : Int), .int .i64 (y.dst : Int), .int .u64 (y.n : Int), .int .i64 y.d, .slice uA y.vs.length uC] 68) := ⟨_, rfl⟩
          have hf4 : Fr (fun _ => False) wr w4 := by rw [hw4]; exact (Fr.refl _ wr).alloc _
          have hn4 : ∀ i x, (mailL y (.slice uA y.vs.length uC))[i]? = some x → w4.cell? (Addr.add ⟨wr.heap.size, 0, none⟩ i) = some x := by
            rw [hw4]; exact World.news_of_block (cs := (mailL y (.slice uA y.vs.length uC)).toArray) (t := 68) (fr := (0, 0)) (heap_alloc_new wr _)
          have hrow4 := own_fr hrow hf4 (fun _ _ h => h)
          have hfr4 := hfr.tr hf4
          have hz4 := hfr4.size
          have hel : ((st.l.take j).eraseIdx n).length ≤ 200 := by rw [List.length_eraseIdx]; split <;> simp <;> omega
          obtain ⟨k, hk⟩ : ∃ k, k = ((st.l.take j).eraseIdx n).length := ⟨_, rfl⟩
          rw [← hk] at hrow4 hel hlen ⊢
          have HW4 := Lib.hid hw4
          have HE := Lib.hid (And.intro e1 (And.intro e2 (And.intro hfr4 (And.intro hlen hk))))
          clear hw4 hf4 e1 e2 hy hu h hfr hrow hfr4 hlen q0 q1 q2 q3 q4 q5 hk
          go_wp2_with (first
            | (at_builtin
               rw [← HW4.out]
               clear HW4
               refine wpList_bi2 rfl .append _ _ _ _ _ rfl rfl rfl _ (ap_cells (base := w.heap.size) Try.underlying82 hi0 hz0 hz1 hz2 rfl (by omega) hrow4 ⟨wr.heap.size, 0, none⟩ 1 1 (mailL y (.slice uA y.vs.length uC)) rfl hn4 (by simp [Value.oneCell', mailL]) (by unfold maxLen; omega) (by omega) hz4) ?_
               rintro v' w5 hap
               obtain ⟨va8, vc8, rfl⟩ := own_sl5 hap.1))
          go_roundg (st.l.length - (j + 1))
          case measure => have := HJ.out; omega
          case rel =>
            obtain ⟨e1, e2, hfr4, hlen, hk⟩ := HE.out
            have hl1 : ((st.l.take (j + 1)).eraseIdx n).length = k + 1 := by rw [e1, List.length_append, ← hk]; rfl
            have hrow5 := hap.1
            refine ⟨j + 1, va8, vc8, by have := HJ.out; omega, by go_num, by rw [hl1], hap.fr hfr4 (fun i hi hlt => by have := (hrow4.lt i hi).1; omega), ?_⟩
            rw [hl1, e1, e2, flatM_append _ _ _ _ (by rw [hlen, hk]), flatM_one']
            exact hrow5
      · obtain rfl : j = st.l.length := by omega
        have hmt : mv.take st.l.length = mv := by rw [← h.mlen]; exact List.take_length
        rw [List.take_length, hmt] at hrow
        rw [List.take_length]
        have rf := h.blk.frozen 6
        have HE := Lib.hid (And.intro hfr hrow)
        clear h hfr hrow hmt
        go_wp2_with fail
        go_ret
        rw [HX.out.2.2.2.1, HX.out.2.2.2.2]
        exact ⟨rfl, HX.out.1.redo HE.out.1 HE.out.2⟩
end Go.Proofs.Ytkpfgoalohbfeaa
