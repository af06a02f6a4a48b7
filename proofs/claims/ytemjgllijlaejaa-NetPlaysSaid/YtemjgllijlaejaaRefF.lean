/- The document's net: Part. -/
import Derived.Test.YtemjgllijlaejaaRefE
namespace Go.Proofs.Ytemjgllijlaejaa
open Go.RowKit

theorem arinfo : (Try.prog.info? 70).map (fun i => (i.zero, i.size, i.bytes)) = some (some (.agg #[.int .i64 0, .int .i64 0]), 2, 16) := by kernel_rfl
/-- The pairs that stay. -/
def keepP (P : List (Int × Int)) (a b : Int) : List (Int × Int) := P.filter fun z => !mt a b z
/-- Who is parted behind a call of Part. -/
def rset (P : List (Int × Int)) (a b : Int) (on : Bool) : List (Int × Int) := keepP P a b ++ if on then [(a, b)] else []
def rsetP (N a b : Int) (P : List (Int × Int)) (on : Bool) : List (Int × Int) := if pairOk N a b then rset P a b on else P
theorem keep_next (P : List (Int × Int)) (a b : Int) (j : Nat) (z : Int × Int) (hz : P[j]? = some z) : keepP (P.take (j + 1)) a b = keepP (P.take j) a b ++ if mt a b z then [] else [z] := by
  unfold keepP
  rw [List.take_add_one, hz, List.filter_append]
  cases h : mt a b z <;> simp [h]
set_option maxRecDepth 1000000 in
theorem build_pair (a b : Int) (w : World) : (Instr.build 70 #[(0, .int .i64 a), (1, .int .i64 b)]).run Try.prog w = .ok (.agg #[.int .i64 a, .int .i64 b]) w := by kernel_rfl
theorem rpairs_one (P : List (Int × Int)) : ∀ u ∈ pairs P, u.oneCell' = true := by
  induction P with
  | nil => simp [pairs]
  | cons z P ih => obtain ⟨a, b⟩ := z; simp [pairs, Value.oneCell']; exact ih

set_option maxRecDepth 100000 in
set_option maxHeartbeats 2000000 in
theorem rpart_no (mb : Nat) (N : Int) (L : List Pk) (P : List (Int × Int)) (F : Nat → Prop) (a b : Int) (on : Bool) (w : World) (h : RefR w mb N L P F) (hp : pairOk N a b = false) :
    Calls Try.prog 39 #[.pointer (some ⟨mb, 0, none⟩), .int .i64 a, .int .i64 b, .bool on] w fun e w' => e = .returned (.int .i64 2) ∧ w = w' := by
  obtain ⟨_, _, -, hmb, c0⟩ := h.row
  have hc : inN N a = false ∨ (inN N a = true ∧ inN N b = false) ∨ (inN N a = true ∧ inN N b = true ∧ a = b) := by
    unfold pairOk at hp
    cases h1 : inN N a <;> cases h2 : inN N b <;> simp_all
  clear h hp
  rcases hc with h1 | ⟨h1, h2⟩ | ⟨h1, h2, h3⟩
  · go_enter Try.func39, Try.ntmps39
    go_wp2_with fail
    refine (rnode_any mb N a w c0).mono ?_
    rintro e w' ⟨rfl, rfl⟩
    rw [h1]
    go_wp2_with fail
    refine (rnode_any mb N b w c0).mono ?_
    rintro e w' ⟨rfl, rfl⟩
    go_wp2_with fail
    go_ret
    exact ⟨rfl, rfl⟩
  · go_enter Try.func39, Try.ntmps39
    go_wp2_with fail
    refine (rnode_any mb N a w c0).mono ?_
    rintro e w' ⟨rfl, rfl⟩
    rw [h1]
    go_wp2_with fail
    refine (rnode_any mb N b w c0).mono ?_
    rintro e w' ⟨rfl, rfl⟩
    rw [h2]
    go_wp2_with fail
    go_ret
    exact ⟨rfl, rfl⟩
  · subst h3
    clear h2
    go_enter Try.func39, Try.ntmps39
    go_wp2_with fail
    refine (rnode_any mb N a w c0).mono ?_
    rintro e w' ⟨rfl, rfl⟩
    rw [h1]
    go_wp2_with fail
    refine (rnode_any mb N a w c0).mono ?_
    rintro e w' ⟨rfl, rfl⟩
    rw [h1]
    go_wp2_with fail
    go_ret
    exact ⟨rfl, rfl⟩

/-- What Part leaves. -/
theorem rpart_fin {w w1 : World} {mb : Nat} {N : Int} {L : List Pk} {P Q : List (Int × Int)} {F : Nat → Prop} {v : Value} (h : RefR w mb N L P F) (hf : Fr (fun _ => False) w w1) (ho : w1.ownsRow w.heap.size 70 2 v Q.length (pairs Q)) :
    RefR (w1.setCell ⟨mb, 2, none⟩ v) mb N L Q (fun k => F k ∨ w.heap.size ≤ k) ∧ Fr F w (w1.setCell ⟨mb, 2, none⟩ v) := by
  obtain ⟨⟨lv, av, vs, h1, h6, h7, h8⟩, hF⟩ := h
  have g1 := h1.fr hf (fun h => h)
  have g6 := h6.fr hf (fun _ _ h => h)
  have hX : Fr (fun k => k = mb) w1 (w1.setCell ⟨mb, 2, none⟩ v) := Fr.set1 _ _ _ _
  have hlt := h1.lt
  refine ⟨⟨⟨lv, v, vs, ?_, ⟨g6.len, own_fr g6.row hX (own_blk_ne g6.row g1 (by decide)), fun k hk => .inl (g6.rin k hk), fun i p u hp hu => ?_⟩, ?_, fun k hk => .inr (ho.lt k hk).1⟩, .inl hF⟩, ?_⟩
  · simpa using g1.set_ 2 v
  · obtain ⟨q1, q2⟩ := g6.body i p u hp hu
    exact ⟨own_fr q1 hX (own_blk_ne q1 g1 (by decide)), fun k hk => .inl (q2 k hk)⟩
  · exact own_base (own_fr ho hX (own_blk_ne ho g1 (by decide)))
  · exact hf.trans hX (by rintro x hx (h | h); exact h.elim; subst h; exact hF)

set_option maxRecDepth 100000 in
set_option maxHeartbeats 8000000 in
theorem rpart_yes (mb : Nat) (N : Int) (L : List Pk) (P : List (Int × Int)) (F : Nat → Prop) (a b : Int) (on : Bool) (w : World) (h : RefR w mb N L P F) (hp : pairOk N a b = true) (hP : P.length ≤ 1000) :
    Calls Try.prog 39 #[.pointer (some ⟨mb, 0, none⟩), .int .i64 a, .int .i64 b, .bool on] w fun e w' => e = .returned (.int .i64 0) ∧ RefR w' mb N L (rset P a b on) (fun k => F k ∨ w.heap.size ≤ k) ∧ Fr F w w' := by
  obtain ⟨i0, hi0, hz0, hz1, hz2⟩ := info_parts arinfo
  obtain ⟨_, _, -, hmb, c0⟩ := h.row
  obtain ⟨pa, pc, c2, -, hz⟩ := h.prow
  have HZ := Lib.hid hz
  have HH := Lib.hid h
  have cf : ∀ wr, Fr (fun _ => False) w wr → wr.frozen? ⟨mb, 2, none⟩ = false := fun wr hf => by
    obtain ⟨⟨lv, av, vs, h1, -, -, -⟩, -⟩ := h
    exact (h1.fr hf (fun h => h)).frozen 2
  have HC := Lib.hid cf
  have hc : inN N a = true ∧ inN N b = true ∧ (a == b) = false := by
    unfold pairOk at hp
    cases h1 : inN N a <;> cases h2 : inN N b <;> simp_all
  obtain ⟨h1, h2, h3⟩ := hc
  clear hz h hp cf
  go_enter Try.func39, Try.ntmps39
  go_wp2_with fail
  refine (rnode_any mb N a w c0).mono ?_
  rintro e w' ⟨rfl, rfl⟩
  rw [h1]
  go_wp2_with fail
  refine (rnode_any mb N b w c0).mono ?_
  rintro e w' ⟨rfl, rfl⟩
  rw [h2]
  clear h1 h2
  go_wp2_with fail
  clear c0 h3
  go_loopg [11, 12] P.length (fun g' x11 x12 wr => ∃ (j : Nat) (va : Option Addr) (vc : Nat) (Q : List (Int × Int)), j + g' = P.length ∧ x11 = .slice va Q.length vc ∧ x12 = .int .i64 j ∧ Q = keepP (P.take j) a b ∧
    wr.ownsRow w.heap.size 70 2 (.slice va Q.length vc) Q.length (pairs Q) ∧ Fr (fun _ => False) w wr)
  case atStart => exact ⟨0, none, 0, [], by omega, rfl, rfl, by simp [keepP], World.ownsRow_nil _ _ _ _, Fr.refl _ w⟩
  case round =>
    obtain ⟨j, qa, qc, Q, hj, rfl, rfl, hQ, hrow, hf⟩ := hrel
    have HJ := Lib.hid (And.intro hj hQ)
    have hj' : j ≤ P.length := by omega
    have hQl : Q.length ≤ 1000 := by
      rw [hQ]; have := List.length_filter_le (fun z => !mt a b z) (P.take j); unfold keepP; simp only [List.length_take] at this; omega
    have d2 := hf.cell c2 (fun h => h)
    clear hj hQ
    by_cases hlt : j < P.length
    · obtain ⟨z, hzj⟩ : ∃ z, P[j]? = some z := ⟨_, List.getElem?_eq_getElem hlt⟩
      obtain ⟨g, rfl, hg, e1, e2⟩ := HZ.out j z hzj
      have q1 := hf.cell e1 (fun h => h)
      have q2 := hf.cell e2 (fun h => h)
      have hlt' : (j : Int) < (P.length : Int) := by omega
      have hnx := keep_next P a b j z hzj
      obtain ⟨za, zb⟩ := z
      simp only at q1 q2 e1 e2
      have HN := Lib.hid hnx
      clear hnx hzj e1 e2
      obtain ⟨w5, hw5⟩ : ∃ w5, w5 = wr.alloc (.cells #[.int .i64 za, .int .i64 zb] 70) := ⟨_, rfl⟩
      have hf5 : Fr (fun _ => False) wr w5 := by rw [hw5]; exact (Fr.refl _ wr).alloc _
      have hb5 : Blk w5 wr.heap.size 70 #[.int .i64 za, .int .i64 zb] := by rw [hw5]; exact Blk.new _ _ _
      have HW5 := Lib.hid hw5
      have hrow5 := own_fr hrow hf5 (fun _ _ h => h)
      have hfw := hf.tr hf5
      have z0 := hb5.cell 0 rfl
      have z1 := hb5.cell 1 rfl
      clear hw5 hf5 hrow hf hb5
      go_upto_region 10 with (fail)
      rw [← HW5.out]
      clear HW5 q1 q2 d2
      obtain ⟨q, hq⟩ : ∃ q, q = wr.heap.size := ⟨_, rfl⟩
      rw [← hq] at z0 z1 ⊢
      clear hq
      cases h1 : (za == a) <;> cases h2 : (zb == b) <;> cases h3 : (za == b) <;> cases h4 : (zb == a)
      all_goals
        first
          | (have hm : mt a b (za, zb) = true := by simp [mt, h1, h2, h3, h4]
             have HM := Lib.hid hm
             have HF := Lib.hid (And.intro hrow5 hfw)
             clear hm hrow5 hfw
             go_wp2_with fail
             go_roundg (P.length - (j + 1))
             case measure => have := HJ.out; omega
             case rel => exact ⟨j + 1, qa, qc, Q, by omega, rfl, by go_num, by rw [HN.out, HM.out, HJ.out.2]; simp, HF.out.1, HF.out.2⟩)
          | (have hm : mt a b (za, zb) = false := by simp [mt, h1, h2, h3, h4]
             have HM := Lib.hid hm
             obtain ⟨w6, hw6⟩ : ∃ w6, w6 = w5.alloc (.cells #[.int .i64 za, .int .i64 zb] 70) := ⟨_, rfl⟩
             have hf6 : Fr (fun _ => False) w5 w6 := by rw [hw6]; exact (Fr.refl _ w5).alloc _
             have hn6 : ∀ j' u, [Value.int .i64 za, .int .i64 zb][j']? = some u → w6.cell? (Addr.add ⟨w5.heap.size, 0, none⟩ j') = some u := by
               rw [hw6]; exact World.news_of_block (cs := #[.int .i64 za, .int .i64 zb]) (t := 70) (fr := (0, 0)) (heap_alloc_new w5 _)
             have hrow6 := own_fr hrow5 hf6 (fun _ _ h => h)
             have HF6 := Lib.hid (hfw.tr hf6)
             have hz6 : w.heap.size ≤ w6.heap.size := (hfw.tr hf6).size
             have HW6 := Lib.hid hw6
             clear hw6 hf6 hrow5 hfw hm
             go_wp2_with (first
               | (at_builtin
                  rw [← HW6.out]
                  clear HW6
                  refine wpList_bi2 rfl .append _ _ _ _ _ rfl rfl rfl _ (ap_cells (base := w.heap.size) Try.underlying52 hi0 hz0 hz1 hz2 rfl (by omega) hrow6 ⟨w5.heap.size, 0, none⟩ 1 1 [.int .i64 za, .int .i64 zb] rfl hn6 (by simp [Value.oneCell']) (by unfold maxLen; omega) (by omega) hz6) ?_
                  rintro v' w7 hap))
             have hrow7 := hap.1
             obtain ⟨na, nc, rfl⟩ : ∃ na nc, v' = .slice na (Q.length + 1) nc := by
               rcases own_form hrow7 with ⟨_, h2, _⟩ | ⟨g, cap, cur, h1, _⟩
               · omega
               · exact ⟨some ⟨g, 0, none⟩, cap, h1⟩
             have hf7 : Fr (fun _ => False) w w7 := hap.fr HF6.out (fun k' hk' hlt' => by have := (hrow6.lt k' hk').1; omega)
             go_roundg (P.length - (j + 1))
             case measure => have := HJ.out; omega
             case rel =>
               refine ⟨j + 1, na, nc, Q ++ [(za, zb)], by omega, by simp, by go_num, by rw [HN.out, HM.out, HJ.out.2]; simp, ?_, hf7⟩
               rw [List.length_append, List.length_singleton, pairs_append]
               exact hrow7)
    · obtain rfl : j = P.length := by omega
      obtain ⟨_, hQ⟩ := HJ.out
      rw [List.take_length] at hQ
      have HQ := Lib.hid hQ
      clear hQ HJ
      cases on with
      | false =>
        have q0 := HC.out wr hf
        have HF := Lib.hid (And.intro hrow hf)
        clear hrow hf
        go_wp2_with fail
        go_ret
        obtain ⟨hrow, hf⟩ := HF.out
        have R := rpart_fin HH.out hf hrow
        refine ⟨rfl, ?_, R.2⟩
        have e : rset P a b false = Q := by rw [HQ.out]; simp [rset]
        rw [e]; exact R.1
      | true =>
        obtain ⟨w6, hw6⟩ : ∃ w6, w6 = wr.alloc (.cells #[.int .i64 a, .int .i64 b] 70) := ⟨_, rfl⟩
        have hf6 : Fr (fun _ => False) wr w6 := by rw [hw6]; exact (Fr.refl _ wr).alloc _
        have hn6 : ∀ j' u, [Value.int .i64 a, .int .i64 b][j']? = some u → w6.cell? (Addr.add ⟨wr.heap.size, 0, none⟩ j') = some u := by
          rw [hw6]; exact World.news_of_block (cs := #[.int .i64 a, .int .i64 b]) (t := 70) (fr := (0, 0)) (heap_alloc_new wr _)
        have hrow6 := own_fr hrow hf6 (fun _ _ h => h)
        have HF6 := Lib.hid (hf.tr hf6)
        have hz6 : w.heap.size ≤ w6.heap.size := (hf.tr hf6).size
        have HW6 := Lib.hid hw6
        clear hw6 hf6 hrow hf
        go_wp2_with (first
          | (refine wpList_build rfl 70 _ rfl [(0, .int .i64 a), (1, .int .i64 b)] _ rfl (build_pair a b _) ?_)
          | (at_builtin
             rw [← HW6.out]
             clear HW6
             refine wpList_bi2 rfl .append _ _ _ _ _ rfl rfl rfl _ (ap_cells (base := w.heap.size) Try.underlying52 hi0 hz0 hz1 hz2 rfl (by omega) hrow6 ⟨wr.heap.size, 0, none⟩ 1 1 [.int .i64 a, .int .i64 b] rfl hn6 (by simp [Value.oneCell']) (by unfold maxLen; omega) (by omega) hz6) ?_
             rintro v' w7 hap
             obtain ⟨na, nc, hv'⟩ : ∃ na nc, v' = .slice na (Q.length + 1) nc := by
               rcases own_form hap.1 with ⟨_, h2, _⟩ | ⟨g, cap, cur, h1, _⟩
               · omega
               · exact ⟨some ⟨g, 0, none⟩, cap, h1⟩
             subst hv'
             have hf7 : Fr (fun _ => False) w w7 := hap.fr HF6.out (fun k' hk' hlt' => by have := (hrow6.lt k' hk').1; omega)
             have q0 := HC.out w7 hf7
             have c7 := hf7.cell c2 (fun h => h)
             have hmb7 : mb < w7.heap.size := by have := hf7.size; omega
             have HF := Lib.hid (And.intro hap.1 hf7)
             clear hap hf7))
        go_ret
        obtain ⟨hrow, hf⟩ := HF.out
        have e : rset P a b true = Q ++ [(a, b)] := by rw [HQ.out]; simp [rset]
        have R := rpart_fin (Q := Q ++ [(a, b)]) HH.out hf (by rw [List.length_append, List.length_singleton, pairs_append]; exact hrow)
        refine ⟨rfl, ?_, R.2⟩
        rw [e]; exact R.1
end Go.Proofs.Ytemjgllijlaejaa
