/- The document's net: Take. -/
import Derived.Test.YtemjgllijlaejaaRefB
import Derived.Test.YtemjgllijlaejaaNetK
namespace Go.Proofs.Ytemjgllijlaejaa
open Go.RowKit

theorem er_same {α : Type} (l : List α) (j : Nat) : (l.take (j + 1)).eraseIdx j = (l.take j).eraseIdx j := by
  rw [List.eraseIdx_of_length_le (l := l.take j) (by simp; omega)]
  by_cases hj : j < l.length
  · rw [List.take_add_one, List.getElem?_eq_getElem hj]
    simp only [Option.toList_some]
    rw [List.eraseIdx_append_of_length_le (by simp; omega)]
    simp [Nat.min_eq_left (Nat.le_of_lt hj)]
  · rw [List.take_of_length_le (by omega), List.take_of_length_le (by omega), List.eraseIdx_of_length_le (by omega)]
theorem er_next {α : Type} (l : List α) (j k : Nat) {x : α} (hx : l[j]? = some x) (hk : ¬ j = k) : (l.take (j + 1)).eraseIdx k = (l.take j).eraseIdx k ++ [x] := by
  have hj := (List.getElem?_eq_some_iff.1 hx).1
  rw [List.take_add_one, hx]
  simp only [Option.toList_some]
  by_cases h : k < j
  · rw [List.eraseIdx_append_of_lt_length (by simp; omega)]
  · rw [List.eraseIdx_of_length_le (l := l.take j) (by simp; omega), List.eraseIdx_of_length_le (by simp; omega)]

set_option maxRecDepth 100000 in
set_option maxHeartbeats 4000000 in
theorem rtake_some (mb : Nat) (N : Int) (L : List Pk) (P : List (Int × Int)) (F : Nat → Prop) (i : Int) (p : Pk) (hp : at? L i = some p) (hb : p.b.length ≤ 1000000) (hL : L.length ≤ 1000) (w : World) (h : RefR w mb N L P F) (hF : ∀ k, F k → k < w.heap.size) :
    Calls Try.prog 35 #[.pointer (some ⟨mb, 0, none⟩), .int .i64 i] w fun e w' => ∃ v, e = .returned (.tuple #[.agg #[.int .i64 p.f, .int .i64 p.t, v], .bool true]) ∧
      w'.ownsRow w.heap.size 5 1 v p.b.length (u8s p.b) ∧ RefR w' mb N (L.eraseIdx i.toNat) P (fun k => F k ∨ w.heap.size ≤ k) ∧ Fr F w w' := by
  obtain ⟨i0, hi0, hz0, hz1, hz2⟩ := info_parts pkinfo
  have HP := Lib.hid hp
  obtain ⟨h0, hi, hp'⟩ := at?_some hp
  obtain ⟨k, rfl⟩ := Int.eq_ofNat_of_zero_le h0
  simp only [Int.toNat_natCast] at hp' hi
  obtain ⟨f, t, bs⟩ := p
  simp only at hb ⊢
  obtain ⟨_, _, -, hmb, -⟩ := h.row
  have HH := Lib.hid h
  clear hp hp'
  obtain ⟨w1, hw1⟩ : ∃ w1, w1 = w.alloc (.cells #[.int .i64 0, .int .i64 0, .slice none 0 0] 29) := ⟨_, rfl⟩
  have hf1 : Fr (fun _ => False) w w1 := by rw [hw1]; exact (Fr.refl _ w).alloc _
  have hb1 : Blk w1 w.heap.size 29 #[.int .i64 0, .int .i64 0, .slice none 0 0] := by rw [hw1]; exact Blk.new _ _ _
  have hz1' : w1.heap.size = w.heap.size + 1 := by rw [hw1]; simp
  have HW1 := Lib.hid hw1
  clear hw1 h
  go_enter Try.func35, Try.ntmps35
  go_upto_region 1 with (fail)
  rw [← HW1.out]
  clear HW1
  go_wp2_with fail
  refine (rlook_some mb N L P F k ⟨f, t, bs⟩ HP.out hb w1 (HH.out.fr hf1 (fun _ _ h => h))).mono ?_
  rintro e w2 ⟨v, rfl, ho2, hf2⟩
  obtain ⟨va, vc, rfl⟩ : ∃ va vc, v = .slice va bs.length vc := by
    rcases own_form ho2 with ⟨h1, h2, _⟩ | ⟨g, cap, cur, h1, _⟩
    · exact ⟨none, 0, by rw [h1]; simp at h2; simp [h2]⟩
    · exact ⟨some ⟨g, 0, none⟩, cap, h1⟩
  obtain ⟨w3, hw3⟩ : ∃ w3, w3 = w2.alloc (.cells #[.int .i64 f, .int .i64 t, .slice va bs.length vc] 29) := ⟨_, rfl⟩
  have hf3' : Fr (fun _ => False) w2 w3 := by rw [hw3]; exact (Fr.refl _ w2).alloc _
  have hb3 : Blk w3 w2.heap.size 29 #[.int .i64 f, .int .i64 t, .slice va bs.length vc] := by rw [hw3]; exact Blk.new _ _ _
  have ho3 := own_fr ho2 hf3' (fun _ _ h => h)
  have hb1' := (hb1.fr hf2 (fun h => h)).fr hf3' (fun h => h)
  have hf3 := (hf1.tr hf2).tr hf3'
  have HW3 := Lib.hid hw3
  have hs2 := hf2.size
  simp only at ho3
  clear hw3 hf3' hb1 ho2 hf2
  go_upto_region 2 with (fail)
  rw [← HW3.out]
  clear HW3
  obtain ⟨q, hq⟩ : ∃ q, q = w2.heap.size := ⟨_, rfl⟩
  rw [← hq] at hb3 hs2 ⊢
  clear hq
  have hH3 := HH.out.fr hf3 (fun _ _ h => h)
  obtain ⟨⟨lv, av, vs, h1, h6, h7, h8⟩, ho⟩ := hH3
  have hlen : ∃ la lc, lv = .slice la L.length lc := by
    rcases own_form h6.row with ⟨rfl, hL, _⟩ | ⟨g, cap, cur, rfl, _⟩
    · exact ⟨none, 0, by rw [hL]⟩
    · exact ⟨_, _, rfl⟩
  obtain ⟨la, lc, rfl⟩ := hlen
  have HR := Lib.hid (And.intro h1 (And.intro h6 (And.intro h7 (And.intro h8 (And.intro hb3 (And.intro hb1' ho3))))))
  have hz3 := hf3.size
  have hq3 := hb3.lt
  clear h1 h6 h7 h8 hb3 hb1' ho3
  go_wp2_with fail
  go_loopg [8, 9] L.length (fun g' x8 x9 wr => ∃ (j : Nat) (va : Option Addr) (vc : Nat) (M : List Pk) (us : List Value), j + g' = L.length ∧ x8 = .slice va M.length vc ∧ x9 = .int .i64 j ∧ M = (L.take j).eraseIdx k ∧ us = (vs.take j).eraseIdx k ∧
    wr.ownsRow w3.heap.size 29 3 (.slice va M.length vc) M.length (flat M us) ∧ Fr (fun _ => False) w3 wr)
  case atStart => exact ⟨0, none, 0, [], [], by omega, rfl, rfl, by simp, by simp, World.ownsRow_nil _ _ _ _, Fr.refl _ w3⟩
  case round =>
    obtain ⟨j, ma, mc, M, us, hj, rfl, rfl, hM, hus, hrow, hf⟩ := hrel
    have HJ := Lib.hid (And.intro hj (And.intro hM hus))
    have hj' : j ≤ L.length := by omega
    have hMl : M.length ≤ 1000 := by rw [hM]; have := List.length_eraseIdx_le (L.take j) k; simp at this; omega
    clear hj hM hus
    have h1 := HR.out.1.fr hf (fun h => h)
    have c1 := h1.cell 1 rfl
    by_cases hlt : j < L.length
    · obtain ⟨pj, hpj⟩ : ∃ pj, L[j]? = some pj := ⟨_, List.getElem?_eq_getElem hlt⟩
      have hlt' : (j : Int) < (L.length : Int) := by omega
      by_cases hjk : j = k
      · subst hjk
        have HF := Lib.hid (And.intro hrow hf)
        clear h1 hrow hf
        go_wp2_with fail
        go_roundg (L.length - (j + 1))
        case measure => have := HJ.out; omega
        case rel =>
          obtain ⟨e1, e2, e3⟩ := HJ.out
          exact ⟨j + 1, ma, mc, M, us, by omega, rfl, by go_num, by rw [er_same]; exact e2, by rw [er_same]; exact e3, HF.out.1, HF.out.2⟩
      · have hjk' : ((j : Int) == (k : Int)) = false := by simp; omega
        have h6 := HR.out.2.1.fr hf (fun _ _ h => h)
        have hjv : j < vs.length := by rw [h6.len]; exact hlt
        obtain ⟨hbj, hbF⟩ := h6.body j pj vs[j] hpj (List.getElem?_eq_getElem hjv)
        obtain ⟨e1, e2, e3⟩ := flat_get L vs j pj vs[j] hpj (List.getElem?_eq_getElem hjv)
        have hrl := h6.row
        obtain ⟨gl, rfl, d0, d1, d2⟩ : ∃ gl, la = some ⟨gl, 0, none⟩ ∧ wr.cell? ⟨gl, j * 3, none⟩ = some (.int .i64 pj.f) ∧ wr.cell? ⟨gl, j * 3 + 1, none⟩ = some (.int .i64 pj.t) ∧ wr.cell? ⟨gl, j * 3 + 2, none⟩ = some vs[j] := by
          rcases own_form hrl with ⟨_, hL0, _⟩ | ⟨g, cap, cur, hv, _⟩
          · omega
          · injection hv with hv1 _ hv2
            subst hv1 hv2
            exact ⟨g, rfl, own_cell hrl _ e1, own_cell hrl _ e2, own_cell hrl _ e3⟩
        obtain ⟨ja, jc, hjs⟩ : ∃ ja jc, vs[j] = .slice ja pj.b.length jc := by
          rcases own_form hbj with ⟨h1, h2, _⟩ | ⟨g, cap, cur, h1, _⟩
          · exact ⟨none, 0, by rw [h1, h2]⟩
          · exact ⟨some ⟨g, 0, none⟩, cap, h1⟩
        have hvj : vs[j]? = some (.slice ja pj.b.length jc) := by rw [List.getElem?_eq_getElem hjv, hjs]
        rw [hjs] at d2
        clear hbj hbF e1 e2 e3 h6 hrl hjs
        obtain ⟨w5, hw5⟩ : ∃ w5, w5 = wr.alloc (.cells #[.int .i64 pj.f, .int .i64 pj.t, .slice ja pj.b.length jc] 29) := ⟨_, rfl⟩
        have hf5 : Fr (fun _ => False) wr w5 := by rw [hw5]; exact (Fr.refl _ wr).alloc _
        have hn5 : ∀ j' u, [Value.int .i64 pj.f, .int .i64 pj.t, .slice ja pj.b.length jc][j']? = some u → w5.cell? (Addr.add ⟨wr.heap.size, 0, none⟩ j') = some u := by
          rw [hw5]; exact World.news_of_block (cs := #[.int .i64 pj.f, .int .i64 pj.t, .slice ja pj.b.length jc]) (t := 29) (fr := (0, 0)) (heap_alloc_new wr _)
        have hrow5 := own_fr hrow hf5 (fun _ _ h => h)
        have HF5 := Lib.hid (hf.tr hf5)
        have hz5 : w3.heap.size ≤ w5.heap.size := (hf.tr hf5).size
        have HW5 := Lib.hid hw5
        have HJV := Lib.hid (And.intro hpj hvj)
        clear hw5 hf5 hrow hf h1 hvj hpj
        go_wp2_with (first
          | (at_builtin
             rw [← HW5.out]
             clear HW5
             refine wpList_bi2 rfl .append _ _ _ _ _ rfl rfl rfl _ (ap_cells (base := w3.heap.size) Try.underlying22 hi0 hz0 hz1 hz2 rfl (by omega) hrow5 ⟨wr.heap.size, 0, none⟩ 1 1 [.int .i64 pj.f, .int .i64 pj.t, .slice ja pj.b.length jc] rfl hn5 (by simp [Value.oneCell']) (by unfold maxLen; omega) (by omega) hz5) ?_
             rintro v' w6 hap))
        obtain ⟨e1, e2, e3⟩ := HJ.out
        obtain ⟨hpj, hvj⟩ := HJV.out
        have hul : us.length = M.length := by
          have := HR.out.2.1.len
          rw [e2, e3, List.length_eraseIdx, List.length_eraseIdx]
          simp [this]
        have hrow6 := hap.1
        obtain ⟨na, nc, rfl⟩ : ∃ na nc, v' = .slice na (M.length + 1) nc := by
          rcases own_form hrow6 with ⟨_, h2, _⟩ | ⟨g, cap, cur, h1, _⟩
          · omega
          · exact ⟨some ⟨g, 0, none⟩, cap, h1⟩
        have hf6 : Fr (fun _ => False) w3 w6 := hap.fr HF5.out (fun k' hk' hlt' => by have := (hrow5.lt k' hk').1; omega)
        go_roundg (L.length - (j + 1))
        case measure => have := HJ.out; omega
        case rel =>
          refine ⟨j + 1, na, nc, M ++ [pj], us ++ [.slice ja pj.b.length jc], by omega, by simp, by go_num, by rw [er_next L j k hpj hjk, e2], by rw [er_next vs j k hvj hjk, e3], ?_, hf6⟩
          rw [List.length_append, List.length_singleton, flat_append _ _ _ _ hul]
          exact hrow6
    · obtain rfl : j = L.length := by omega
      obtain ⟨_, hM, hus⟩ := HJ.out
      obtain ⟨_, h6, h7, h8, hb3, hb1', ho3⟩ := HR.out
      rw [List.take_length] at hM
      rw [← h6.len, List.take_length] at hus
      have hb3' := hb3.fr hf (fun h => h)
      have hb1'' := hb1'.fr hf (fun h => h)
      have c2 := h1.frozen
      have q0 := hb3'.cell 0 rfl
      have q1 := hb3'.cell 1 rfl
      have q2 := hb3'.cell 2 rfl
      have r0 := hb1''.frozen
      have r1 := hb1''.cell 0 rfl
      have r2 := hb1''.cell 1 rfl
      have r3 := hb1''.cell 2 rfl
      have HE := Lib.hid (And.intro hM (And.intro hus (And.intro h6 (And.intro h7 (And.intro h8 (And.intro ho3 (And.intro hrow (And.intro hf (And.intro h1 (And.intro hb3' hb1''))))))))))
      have hne1 : mb ≠ w.heap.size := by omega
      have hne2 : mb ≠ q := by omega
      clear hM hus h6 h7 h8 ho3 hrow hf h1 hb3 hb3' hb1' hb1''
      go_wp2_with fail
      obtain ⟨hM, hus, h6, h7, h8, ho3, hrow, hf, h1, hb3', hb1''⟩ := HE.out
      have hX : Fr (fun x => x = mb ∨ x = w.heap.size) wr ((((wr.setCell ⟨mb, 1, none⟩ (.slice ma M.length mc)).setCell ⟨w.heap.size, 0, none⟩ (.int .i64 f)).setCell ⟨w.heap.size, 1, none⟩ (.int .i64 t)).setCell ⟨w.heap.size, 2, none⟩ (.slice va bs.length vc)) :=
        ((((Fr.refl _ wr).setCell (p := ⟨mb, 1, none⟩) (fun _ => .inl rfl) _).setCell (p := ⟨w.heap.size, 0, none⟩) (fun _ => .inr rfl) _).setCell (p := ⟨w.heap.size, 1, none⟩) (fun _ => .inr rfl) _).setCell (p := ⟨w.heap.size, 2, none⟩) (fun _ => .inr rfl) _
      have hW1 := (((h1.set_ 1 (.slice ma M.length mc)).far (p := ⟨w.heap.size, 0, none⟩) hne1 (.int .i64 f)).far (p := ⟨w.heap.size, 1, none⟩) hne1 (.int .i64 t)).far (p := ⟨w.heap.size, 2, none⟩) hne1 (.slice va bs.length vc)
      have hW2 := (((hb1''.far (p := ⟨mb, 1, none⟩) (Ne.symm hne1) (.slice ma M.length mc)).set_ 0 (.int .i64 f)).set_ 1 (.int .i64 t)).set_ 2 (.slice va bs.length vc)
      have hs := hf.size
      refine bodyPost_ret (results_row_tmp rfl _ _ w.heap.size 29 #[.int .i64 f, .int .i64 t, .slice va bs.length vc] (0, 0) _ rfl ?_ Try.underlying29 rfl (by kernel_rfl)) rfl ⟨_, rfl, ?_, ⟨⟨.slice ma M.length mc, av, us, ?_, ⟨?_, ?_, ?_, ?_⟩, ?_, ?_⟩, .inl ho⟩, ?_⟩
      · show Blk _ w.heap.size 29 #[.int .i64 f, .int .i64 t, .slice va bs.length vc]
        simpa using hW2
      · refine own_up (own_base (own_fr (own_fr ho3 hf (fun _ _ h => h)) hX (fun k' hk' hx => ?_))) (fun k' hk' => ?_)
        · have := (ho3.lt k' hk').1; omega
        · have := (ho3.lt k' hk').1; omega
      · simpa using hW1
      · rw [hus, Int.toNat_natCast, List.length_eraseIdx, List.length_eraseIdx, h6.len]
      · rw [Int.toNat_natCast, ← hM]
        exact own_base (own_fr hrow hX (fun k' hk' hx => by have := (hrow.lt k' hk').1; omega))
      · intro k' hk'
        have := (hrow.lt k' hk').1
        right; omega
      · intro i' p' v' hp' hv'
        rw [Int.toNat_natCast, List.getElem?_eraseIdx] at hp'
        rw [hus, List.getElem?_eraseIdx] at hv'
        have key : ∀ n : Nat, L[n]? = some p' → vs[n]? = some v' → (((((wr.setCell ⟨mb, 1, none⟩ (.slice ma M.length mc)).setCell ⟨w.heap.size, 0, none⟩ (.int .i64 f)).setCell ⟨w.heap.size, 1, none⟩ (.int .i64 t)).setCell ⟨w.heap.size, 2, none⟩ (.slice va bs.length vc))).ownsRow 0 5 1 v' p'.b.length (u8s p'.b) ∧ ∀ k, v'.ownBlock = some k → F k ∨ w.heap.size ≤ k := by
          intro n h1' h2'
          obtain ⟨q1, q2⟩ := h6.body n p' v' h1' h2'
          have q3 := own_fr q1 hf (fun _ _ h => h)
          refine ⟨own_fr q3 hX (fun k' hk' hx => ?_), fun k' hk' => .inl (q2 k' hk')⟩
          rcases hx with hx | hx
          · exact own_blk_ne q3 h1 (by decide) k' hk' hx
          · have := hF k' (q2 k' hk'); omega
        split at hp'
        · rename_i hlt2
          rw [if_pos hlt2] at hv'
          exact key _ hp' hv'
        · rename_i hlt2
          rw [if_neg hlt2] at hv'
          exact key _ hp' hv'
      · refine own_fr (own_fr h7 hf (fun _ _ h => h)) hX (fun k' hk' hx => ?_)
        rcases hx with hx | hx
        · exact own_blk_ne (own_fr h7 hf (fun _ _ h => h)) h1 (by decide) k' hk' hx
        · have := hF k' (h8 k' hk'); omega
      · intro k' hk'
        exact .inl (h8 k' hk')
      · exact (hf3.tr hf).trans hX (by rintro x hx (h | h | h); exact h.elim; subst h; exact ho; omega)
end Go.Proofs.Ytemjgllijlaejaa
