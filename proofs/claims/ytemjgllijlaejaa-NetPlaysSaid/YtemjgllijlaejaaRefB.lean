/- The document's net: New, Parted, Look. -/
import Derived.Test.YtemjgllijlaejaaRefA
namespace Go.Proofs.Ytemjgllijlaejaa
open Go.RowKit

theorem rnew_ok (N : Int) (w : World) (h1 : 1 ≤ N) (h2 : N ≤ 12) :
    Calls Try.prog 22 #[.int .i64 N] w fun e w' => e = .returned (.tuple #[.pointer (some ⟨w.heap.size, 0, none⟩), .int .i64 0]) ∧
      RefR w' w.heap.size N [] [] (fun k => k = w.heap.size) ∧ w'.heap.size = w.heap.size + 1 ∧ Fr (fun _ => False) w w' := by
  go_enter Try.func22, Try.ntmps22
  go_wp2_with fail
  go_ret2
  refine ⟨rfl, ⟨⟨.slice none 0 0, .slice none 0 0, [], Blk.new w _ _, ⟨rfl, World.ownsRow_nil _ _ _ _, fun k hk => by simp [Value.ownBlock] at hk, fun i p v hp _ => by simp at hp⟩, World.ownsRow_nil _ _ _ _, fun k hk => by simp [Value.ownBlock] at hk⟩, rfl⟩, by simp, (Fr.refl _ w).alloc _⟩
theorem rnew_bad (N : Int) (w : World) (h : N < 1 ∨ 12 < N) :
    Calls Try.prog 22 #[.int .i64 N] w fun e w' => e = .returned (.tuple #[.pointer none, .int .i64 2]) ∧ w = w' := by
  rcases h with h | h
  · go_enter Try.func22, Try.ntmps22
    go_wp2_with fail
    go_ret2
    exact ⟨rfl, rfl⟩
  · by_cases h1 : N < 1
    · omega
    · go_enter Try.func22, Try.ntmps22
      go_wp2_with fail
      go_ret2
      exact ⟨rfl, rfl⟩

/-- The cells of a packet under way, and its body. -/
theorem RefR.pk {w : World} {mb : Nat} {N : Int} {L : List Pk} {P : List (Int × Int)} {F : Nat → Prop} (h : RefR w mb N L P F) {k : Nat} {p : Pk} (hp : L[k]? = some p) :
    ∃ g lc s, w.cell? ⟨mb, 1, none⟩ = some (.slice (some ⟨g, 0, none⟩) L.length lc) ∧ w.cell? ⟨g, k * 3, none⟩ = some (.int .i64 p.f) ∧ w.cell? ⟨g, k * 3 + 1, none⟩ = some (.int .i64 p.t) ∧
      w.cell? ⟨g, k * 3 + 2, none⟩ = some s ∧ w.ownsRow 0 5 1 s p.b.length (u8s p.b) ∧ (∀ b, s.ownBlock = some b → F b) := by
  obtain ⟨⟨lv, av, vs, h1, h6, -, -⟩, ho⟩ := h
  have hk := (List.getElem?_eq_some_iff.1 hp).1
  have hkv : k < vs.length := by rw [h6.len]; exact hk
  obtain ⟨hb1, hb2⟩ := h6.body k p vs[k] hp (List.getElem?_eq_getElem hkv)
  obtain ⟨e1, e2, e3⟩ := flat_get L vs k p vs[k] hp (List.getElem?_eq_getElem hkv)
  have hrow := h6.row
  have hc := h1.cell 1 rfl
  rcases own_form hrow with ⟨rfl, hL, _⟩ | ⟨g, cap, cur, rfl, _⟩
  · omega
  · exact ⟨g, cap, _, hc, own_cell hrow _ e1, own_cell hrow _ e2, own_cell hrow _ e3, hb1, hb2⟩
theorem RefR.row {w : World} {mb : Nat} {N : Int} {L : List Pk} {P : List (Int × Int)} {F : Nat → Prop} (h : RefR w mb N L P F) : ∃ a c, w.cell? ⟨mb, 1, none⟩ = some (.slice a L.length c) ∧ mb < w.heap.size ∧ w.cell? ⟨mb, 0, none⟩ = some (.int .i64 N) := by
  obtain ⟨⟨lv, av, vs, h1, h6, -, -⟩, ho⟩ := h
  have hc := h1.cell 1 rfl
  rcases own_form h6.row with ⟨rfl, hL, _⟩ | ⟨g, cap, cur, rfl, _⟩
  · exact ⟨none, 0, by rw [hc, hL]; rfl, h1.lt, h1.cell 0 rfl⟩
  · exact ⟨_, _, hc, h1.lt, h1.cell 0 rfl⟩

set_option maxRecDepth 100000 in
set_option maxHeartbeats 2000000 in
theorem rlook_some (mb : Nat) (N : Int) (L : List Pk) (P : List (Int × Int)) (F : Nat → Prop) (i : Int) (p : Pk) (hp : at? L i = some p) (hb : p.b.length ≤ 1000000) (w : World) (h : RefR w mb N L P F) :
    Calls Try.prog 38 #[.pointer (some ⟨mb, 0, none⟩), .int .i64 i] w fun e w' => ∃ v, e = .returned (.tuple #[.agg #[.int .i64 p.f, .int .i64 p.t, v], .bool true]) ∧
      w'.ownsRow w.heap.size 5 1 v p.b.length (u8s p.b) ∧ Fr (fun _ => False) w w' := by
  obtain ⟨h0, hi, hp'⟩ := at?_some hp
  obtain ⟨k, rfl⟩ := Int.eq_ofNat_of_zero_le h0
  simp only [Int.toNat_natCast] at hp' hi
  obtain ⟨f, t, bs⟩ := p
  obtain ⟨gr, lc, s, c1, d0, d1, d2, hbo, -⟩ := h.pk hp'
  obtain ⟨_, _, -, hmb, -⟩ := h.row
  simp only at d0 d1 d2 hbo hb ⊢
  have hi' : (k : Int) < (L.length : Int) := by omega
  have hn0 : ¬ (k : Int) < 0 := by omega
  obtain ⟨w2, hw2⟩ : ∃ w2, w2 = w.alloc (.cells #[.int .i64 0, .int .i64 0, .slice none 0 0] 29) := ⟨_, rfl⟩
  have hF2 : Fr (fun _ => False) w w2 := by rw [hw2]; exact (Fr.refl _ w).alloc _
  have hB2 : Blk w2 w.heap.size 29 #[.int .i64 0, .int .i64 0, .slice none 0 0] := by rw [hw2]; exact Blk.new _ _ _
  have hz2 : w2.heap.size = w.heap.size + 1 := by rw [hw2]; simp
  have HW := Lib.hid hw2
  have c1' := hF2.cell c1 (fun h => h)
  have d0' := hF2.cell d0 (fun h => h)
  have d1' := hF2.cell d1 (fun h => h)
  have d2' := hF2.cell d2 (fun h => h)
  have hbo' := own_fr hbo hF2 (fun _ _ h => h)
  have HB2 := Lib.hid hB2
  clear c1 d0 d1 d2 hB2 hp hp' h hw2
  go_enter Try.func38, Try.ntmps38
  go_upto_region 1 with (fail)
  rw [← HW.out]
  clear HW
  go_wp2_with fail
  refine (rcopy_any ⟨f, t, bs⟩ _ w2 (Byt.of_own hbo') hb).mono ?_
  rintro e w3 ⟨v, rfl, ho3, hF3⟩
  have hB3 := HB2.out.fr hF3 (fun h => h)
  have q0 := hB3.cell 0 rfl
  have q1 := hB3.cell 1 rfl
  have q2 := hB3.cell 2 rfl
  have q3 := hB3.frozen
  obtain ⟨va, vc, rfl⟩ : ∃ va vc, v = .slice va bs.length vc := by
    rcases own_form ho3 with ⟨h1, h2, _⟩ | ⟨g, cap, cur, h1, _⟩
    · exact ⟨none, 0, by rw [h1]; simp at h2; simp [h2]⟩
    · exact ⟨some ⟨g, 0, none⟩, cap, h1⟩
  clear c1' d0' d1' d2'
  go_wp2_with fail
  have hX : Fr (fun x => x = w.heap.size) w3 (((w3.setCell ⟨w.heap.size, 0, none⟩ (.int .i64 f)).setCell ⟨w.heap.size, 1, none⟩ (.int .i64 t)).setCell ⟨w.heap.size, 2, none⟩ (.slice va bs.length vc)) :=
    ((Fr.set1 w3 w.heap.size 0 _).setCell (p := ⟨w.heap.size, 1, none⟩) (fun _ => rfl) _).setCell (p := ⟨w.heap.size, 2, none⟩) (fun _ => rfl) _
  have hW := ((hB3.set_ 0 (.int .i64 f)).set_ 1 (.int .i64 t)).set_ 2 (.slice va bs.length vc)
  refine bodyPost_ret (results_row_tmp rfl _ _ w.heap.size 29 #[.int .i64 f, .int .i64 t, .slice va bs.length vc] (0, 0) _ rfl ?_ Try.underlying29 rfl (by kernel_rfl)) rfl ⟨_, rfl, ?_, ?_⟩
  · show Blk _ w.heap.size 29 #[.int .i64 f, .int .i64 t, .slice va bs.length vc]
    simpa using hW
  · exact own_up (own_base (own_fr ho3 hX (own_blk_ne ho3 hB3 (by decide)))) (fun k hk => by have := (ho3.lt k hk).1; omega)
  · exact (hF2.tr hF3).trans hX (by rintro x hx (h | h); exact h; omega)

theorem rlook_none (mb : Nat) (N : Int) (L : List Pk) (P : List (Int × Int)) (F : Nat → Prop) (i : Int) (hp : at? L i = none) (w : World) (h : RefR w mb N L P F) :
    Calls Try.prog 38 #[.pointer (some ⟨mb, 0, none⟩), .int .i64 i] w fun e w' => e = .returned (.tuple #[.agg #[.int .i64 0, .int .i64 0, .slice none 0 0], .bool false]) ∧ Fr (fun _ => False) w w' := by
  obtain ⟨a, c, c1, hmb, -⟩ := h.row
  by_cases h0 : i < 0
  · go_enter Try.func38, Try.ntmps38
    go_wp2_with fail
    refine bodyPost_ret (results_row_tmp rfl _ _ w.heap.size 29 #[.int .i64 0, .int .i64 0, .slice none 0 0] (0, 0) _ rfl ?_ Try.underlying29 rfl (by kernel_rfl)) rfl ⟨rfl, ?_⟩
    · exact Blk.new w _ _
    · exact (Fr.refl _ w).alloc _
  · have h1 : (L.length : Int) ≤ i := by
      have := at?_no hp
      simp at this
      omega
    clear hp
    go_enter Try.func38, Try.ntmps38
    go_wp2_with fail
    refine bodyPost_ret (results_row_tmp rfl _ _ w.heap.size 29 #[.int .i64 0, .int .i64 0, .slice none 0 0] (0, 0) _ rfl ?_ Try.underlying29 rfl (by kernel_rfl)) rfl ⟨rfl, ?_⟩
    · exact Blk.new w _ _
    · exact (Fr.refl _ w).alloc _

/-- Do two pairs match? -/
def mt (a b : Int) (z : Int × Int) : Bool := (z.1 == a && z.2 == b) || (z.1 == b && z.2 == a)
theorem pairs_get : ∀ (P : List (Int × Int)) (j : Nat) (z : Int × Int), P[j]? = some z → (pairs P)[j * 2]? = some (.int .i64 z.1) ∧ (pairs P)[j * 2 + 1]? = some (.int .i64 z.2)
  | [], _, _, h => by simp at h
  | (a, b) :: l, 0, z, h => by simp at h; subst h; simp [pairs]
  | (a, b) :: l, j + 1, z, h => by
    have := pairs_get l j z (by simpa using h)
    rw [show (j + 1) * 2 = j * 2 + 2 by omega]
    simpa [pairs] using this
theorem pairs_append : ∀ (P Q : List (Int × Int)), pairs (P ++ Q) = pairs P ++ pairs Q
  | [], _ => rfl
  | (a, b) :: l, Q => by simp [pairs, pairs_append l Q]
theorem pairs_length : ∀ (P : List (Int × Int)), (pairs P).length = P.length * 2
  | [] => rfl
  | (a, b) :: l => by simp [pairs, pairs_length l]; omega
theorem RefR.prow {w : World} {mb : Nat} {N : Int} {L : List Pk} {P : List (Int × Int)} {F : Nat → Prop} (h : RefR w mb N L P F) :
    ∃ a c, w.cell? ⟨mb, 2, none⟩ = some (.slice a P.length c) ∧ mb < w.heap.size ∧ ∀ j z, P[j]? = some z → ∃ g, a = some ⟨g, 0, none⟩ ∧ g < w.heap.size ∧ w.cell? ⟨g, j * 2, none⟩ = some (.int .i64 z.1) ∧ w.cell? ⟨g, j * 2 + 1, none⟩ = some (.int .i64 z.2) := by
  obtain ⟨⟨lv, av, vs, h1, -, h3, -⟩, ho⟩ := h
  have hc := h1.cell 2 rfl
  rcases own_form h3 with ⟨rfl, hL, _⟩ | ⟨g, cap, cur, rfl, _⟩
  · exact ⟨none, 0, by rw [hc, hL]; rfl, h1.lt, fun j z hz => by have := (List.getElem?_eq_some_iff.1 hz).1; omega⟩
  · refine ⟨_, _, hc, h1.lt, fun j z hz => ⟨g, rfl, own_lt h3 rfl, ?_, ?_⟩⟩
    · exact own_cell h3 _ (pairs_get P j z hz).1
    · exact own_cell h3 _ (pairs_get P j z hz).2

set_option maxRecDepth 100000 in
set_option maxHeartbeats 4000000 in
theorem rparted_any (mb : Nat) (N : Int) (L : List Pk) (P : List (Int × Int)) (F : Nat → Prop) (a b : Int) (w : World) (h : RefR w mb N L P F) (hP : P.length ≤ 1000) :
    Calls Try.prog 40 #[.pointer (some ⟨mb, 0, none⟩), .int .i64 a, .int .i64 b] w fun e w' => e = .returned (.bool (P.any (mt a b))) ∧ Fr (fun _ => False) w w' := by
  obtain ⟨pa, pc, c2, hmb, hz⟩ := h.prow
  have HZ := Lib.hid hz
  clear hz h
  go_enter Try.func40, Try.ntmps40
  go_wp2_with fail
  go_loopg [7] P.length (fun g' x7 wr => ∃ (j : Nat), j + g' = P.length ∧ x7 = .int .i64 j ∧ (P.take j).any (mt a b) = false ∧ Fr (fun _ => False) w wr)
  case atStart => exact ⟨0, by omega, rfl, by simp, Fr.refl _ w⟩
  case round =>
    obtain ⟨j, hj, rfl, hany, hf⟩ := hrel
    have HJ := Lib.hid hj
    have hj' : j ≤ P.length := by omega
    have HA := Lib.hid hany
    have d2 := hf.cell c2 (fun h => h)
    clear hj hany
    by_cases hlt : j < P.length
    · obtain ⟨z, hzj⟩ : ∃ z, P[j]? = some z := ⟨_, List.getElem?_eq_getElem hlt⟩
      obtain ⟨g, rfl, hg, e1, e2⟩ := HZ.out j z hzj
      have q1 := hf.cell e1 (fun h => h)
      have q2 := hf.cell e2 (fun h => h)
      have hlt' : (j : Int) < (P.length : Int) := by omega
      have htk : (P.take (j + 1)).any (mt a b) = mt a b z := by
        rw [List.take_add_one, hzj, List.any_append, HA.out]
        simp
      have hall : mt a b z = true → P.any (mt a b) = true := fun h => by
        rw [List.any_eq_true]
        exact ⟨z, List.mem_of_getElem? hzj, h⟩
      obtain ⟨za, zb⟩ := z
      simp only at q1 q2 e1 e2
      have HT := Lib.hid (And.intro htk hall)
      have HF := Lib.hid (hf.alloc (.cells #[.int .i64 za, .int .i64 zb] 70))
      clear htk hall hzj hf e1 e2
      cases h1 : (za == a) <;> cases h2 : (zb == b) <;> cases h3 : (za == b) <;> cases h4 : (zb == a)
      all_goals
        first
          | (have hm : mt a b (za, zb) = false := by simp [mt, h1, h2, h3, h4]
             go_wp2_with fail
             go_roundg (P.length - (j + 1))
             case measure => have := HJ.out; omega
             case rel => exact ⟨j + 1, by omega, by go_num, by rw [HT.out.1, hm], HF.out⟩)
          | (have hm : mt a b (za, zb) = true := by simp [mt, h1, h2, h3, h4]
             go_wp2_with fail
             go_ret
             exact ⟨by rw [HT.out.2 hm]; rfl, HF.out⟩)
    · obtain rfl : j = P.length := by omega
      go_wp2_with fail
      go_ret
      have := HA.out
      rw [List.take_length] at this
      exact ⟨by rw [this]; rfl, hf⟩
end Go.Proofs.Ytemjgllijlaejaa
