/- The document's net: what it holds; Copy, New, Look; Spoil. -/
import Derived.Test.YtemjgllijlaejaaNetI
import Derived.Test.YtemjgllijlaejaaOpen
import Derived.Deep.LoopGhost
namespace Go.Proofs.Ytemjgllijlaejaa
open Go.RowKit

set_option maxHeartbeats 1000000 in
theorem rcopy_any (p : Pk) (s : Value) (w : World) (hs : Byt w s p.b) (hl : p.b.length ≤ 1000000) :
    Calls Try.prog 42 #[.agg #[.int .i64 p.f, .int .i64 p.t, s]] w fun e w' => ∃ v, e = .returned (.agg #[.int .i64 p.f, .int .i64 p.t, v]) ∧
      w'.ownsRow w.heap.size 5 1 v p.b.length (u8s p.b) ∧ Fr (fun _ => False) w w' := by
  obtain ⟨i0, hi0, hz0, hz1, hz2⟩ := info_parts u8info
  obtain ⟨f, t, bs⟩ := p
  simp only at hs hl ⊢
  have hs0 := hs
  obtain ⟨A, c, rfl, -, -⟩ := hs0
  obtain ⟨w3, hw3⟩ : ∃ w3, w3 = (w.alloc (.cells #[.int .i64 f, .int .i64 t, .slice A bs.length c] 29)).alloc (.cells #[.int .i64 0, .int .i64 0, .slice none 0 0] 29) := ⟨_, rfl⟩
  have hs3 : Byt w3 (.slice A bs.length c) bs := by rw [hw3]; exact (hs.alloc _).alloc _
  have hb1 : Blk w3 w.heap.size 29 #[.int .i64 f, .int .i64 t, .slice A bs.length c] := by rw [hw3]; exact (Blk.new _ _ _).alloc _
  have hb2 : Blk w3 (w.heap.size + 1) 29 #[.int .i64 0, .int .i64 0, .slice none 0 0] := by
    have := Blk.new (w.alloc (.cells #[.int .i64 f, .int .i64 t, .slice A bs.length c] 29)) 29 #[.int .i64 0, .int .i64 0, .slice none 0 0]
    rw [hw3]; simpa using this
  have hz3 : w3.heap.size = w.heap.size + 2 := by rw [hw3]; simp
  have hf3 : Fr (fun _ => False) w w3 := by rw [hw3]; exact ((Fr.refl _ w).alloc _).alloc _
  have hown0 := World.ownsRow_nil w3 w.heap.size 5 1
  go_enter Try.func42, Try.ntmps42
  go_wp2_with (first
    | (at_builtin
       rw [← hw3]
       refine wpList_bi2 rfl .append _ _ _ _ _ rfl rfl rfl _ (ap_byt (base := w.heap.size) Try.underlying27 hi0 hz0 hz1 hz2 rfl hown0 _ bs hs3 (by omega) (by omega)) ?_
       clear hw3
       rintro v' w1 hap
       have hb1' := hap.blk hb1 (by simp [Value.ownBlock])
       have hb2' := hap.blk hb2 (by simp [Value.ownBlock])
       have a0 := hb1'.cell 0 rfl
       have a1 := hb1'.cell 1 rfl
       have a2 := hb1'.cell 2 rfl
       have b0 := hb2'.cell 0 rfl
       have b1 := hb2'.cell 1 rfl
       have b2 := hb2'.cell 2 rfl
       have b3 := hb2'.frozen
       obtain ⟨va, vc, hv'⟩ : ∃ va vc, v' = .slice va bs.length vc := by
         rcases own_form hap.1 with ⟨h1, h2, _⟩ | ⟨g, cap, cur, h1, _⟩
         · exact ⟨none, 0, by rw [h1]; simp at h2; simp [h2]⟩
         · exact ⟨some ⟨g, 0, none⟩, cap, by rw [h1, Nat.zero_add]⟩
       subst hv'))
  have ho2 := hap.1
  simp only [Nat.zero_add, List.nil_append] at ho2
  have hf4 := hap.fr hf3 (fun k hk _ => by simp [Value.ownBlock] at hk)
  have hX : Fr (fun k => k = w.heap.size + 1) w1 (((w1.setCell ⟨w.heap.size + 1, 0, none⟩ (.int .i64 f)).setCell ⟨w.heap.size + 1, 1, none⟩ (.int .i64 t)).setCell ⟨w.heap.size + 1, 2, none⟩ (.slice va bs.length vc)) :=
    ((Fr.set1 w1 (w.heap.size + 1) 0 _).setCell (p := ⟨w.heap.size + 1, 1, none⟩) (fun _ => rfl) _).setCell (p := ⟨w.heap.size + 1, 2, none⟩) (fun _ => rfl) _
  have hB' := ((hb2'.set_ 0 (.int .i64 f)).set_ 1 (.int .i64 t)).set_ 2 (.slice va bs.length vc)
  refine bodyPost_ret (results_cell_row rfl _ _ (w.heap.size + 1) 29 #[.int .i64 f, .int .i64 t, .slice va bs.length vc] (0, 0) _ rfl ?_ Try.underlying29 rfl (by kernel_rfl)) rfl ⟨_, rfl, ?_, ?_⟩
  · show Blk _ (w.heap.size + 1) 29 #[.int .i64 f, .int .i64 t, .slice va bs.length vc]
    simpa using hB'
  · exact own_fr ho2 hX (fun k hk => own_blk_ne ho2 hb2' (by decide) k hk)
  · exact hf4.trans hX (fun k hk h => by rcases h with h | h; exact h; omega)

/-- What the document's net holds. -/
structure RPacks (w : World) (lv : Value) (L : List Pk) (vs : List Value) (F : Nat → Prop) : Prop where
  len : vs.length = L.length
  row : w.ownsRow 0 29 3 lv L.length (flat L vs)
  rin : ∀ k, lv.ownBlock = some k → F k
  body : ∀ (i : Nat) (p : Pk) (v : Value), L[i]? = some p → vs[i]? = some v → w.ownsRow 0 5 1 v p.b.length (u8s p.b) ∧ ∀ k, v.ownBlock = some k → F k
def pairs : List (Int × Int) → List Value
  | [] => []
  | (a, b) :: l => .int .i64 a :: .int .i64 b :: pairs l
structure RefR (w : World) (mb : Nat) (N : Int) (L : List Pk) (P : List (Int × Int)) (F : Nat → Prop) : Prop where
  ex : ∃ lv av vs, Blk w mb 54 #[.int .i64 N, lv, av] ∧ RPacks w lv L vs F ∧ w.ownsRow 0 70 2 av P.length (pairs P) ∧ (∀ k, av.ownBlock = some k → F k)
  own : F mb
theorem RPacks.fr {w w' : World} {lv : Value} {L : List Pk} {vs : List Value} {F X : Nat → Prop} (h : RPacks w lv L vs F) (hf : Fr X w w') (hx : ∀ k, F k → ¬ X k) : RPacks w' lv L vs F :=
  ⟨h.len, own_fr h.row hf fun k hk => hx k (h.rin k hk), h.rin, fun i p v hp hv => by
    obtain ⟨h1, h2⟩ := h.body i p v hp hv
    exact ⟨own_fr h1 hf fun k hk => hx k (h2 k hk), h2⟩⟩
theorem RefR.fr {w w' : World} {mb : Nat} {N : Int} {L : List Pk} {P : List (Int × Int)} {F X : Nat → Prop} (h : RefR w mb N L P F) (hf : Fr X w w') (hx : ∀ k, F k → ¬ X k) : RefR w' mb N L P F := by
  obtain ⟨⟨lv, av, vs, h1, h2, h3, h4⟩, ho⟩ := h
  exact ⟨⟨lv, av, vs, h1.fr hf (hx mb ho), h2.fr hf hx, own_fr h3 hf fun k hk => hx k (h4 k hk), h4⟩, ho⟩

set_option maxHeartbeats 1000000 in
theorem spoil_any (s : Value) (bs : List UInt8) (w : World) (hs : w.ownsRow 0 5 1 s bs.length (u8s bs)) :
    Calls Try.prog 34 #[s] w fun e w' => e = .returned (.tuple #[]) ∧ Fr (fun k => s.ownBlock = some k) w w' := by
  rcases own_form hs with ⟨rfl, hn, _⟩ | ⟨g, cap, cur, rfl, _, hg, hcap, hm, hsz, htk⟩
  · have hb : bs = [] := List.eq_nil_of_length_eq_zero hn
    subst hb
    go_enter Try.func34, Try.ntmps34
    go_wp2_with fail
    go_loopg [2] 0 (fun g' x2 wr => x2 = .int .i64 0 ∧ w = wr)
    case atStart => exact ⟨rfl, rfl⟩
    case round =>
      obtain ⟨rfl, rfl⟩ := hrel
      go_wp2_with fail
      exact bodyPost_end (results_none rfl _ _ _) rfl ⟨rfl, Fr.refl _ w⟩
  · have hbl : bs.length ≤ 9223372036854775807 := by unfold maxLen at hm; omega
    have h0 : ∀ i, i < bs.length → ∃ z : Int, cur[i]? = some (.int .u8 z) := by
      intro i hi
      have hu := u8s_get bs i (List.getElem?_eq_getElem hi)
      rw [← htk, List.getElem?_take, if_pos (by omega)] at hu
      exact ⟨_, by simpa using hu⟩
    go_enter Try.func34, Try.ntmps34
    go_wp2_with fail
    go_loopg [2] bs.length (fun g' x2 wr => ∃ (j : Nat) (cs : Array Value), j + g' = bs.length ∧ x2 = .int .i64 j ∧ Blk wr g 5 cs ∧ (∀ i, i < bs.length → ∃ z : Int, cs[i]? = some (.int .u8 z)) ∧ Fr (fun k => k = g) w wr)
    case atStart => exact ⟨0, cur, by omega, rfl, hg, h0, Fr.refl _ w⟩
    case round =>
      clear hg h0 htk hs hsz
      obtain ⟨j, cs, hj, rfl, hB, hc, hf⟩ := hrel
      have HJ := Lib.hid hj
      have HC := Lib.hid hc
      have hj' : j ≤ bs.length := by omega
      clear hj hc
      by_cases hlt : j < bs.length
      · obtain ⟨z, hz⟩ := HC.out j hlt
        have q0 := hB.cell j hz
        have q1 := hB.frozen j
        have hlt' : (j : Int) < (bs.length : Int) := by omega
        have HB := Lib.hid (And.intro hB hf)
        clear hz hB hf
        go_wp2_with fail
        go_roundg (bs.length - (j + 1))
        case measure => have := HJ.out; omega
        case rel =>
          obtain ⟨hB, hf⟩ := HB.out
          refine ⟨j + 1, _, by omega, by go_num, hB.set_ j _, fun i hi => ?_, hf.setCell (p := ⟨g, j, none⟩) (fun _ => rfl) _⟩
          by_cases hij : j = i
          · subst hij
            obtain ⟨z', hz'⟩ := HC.out j hi
            have := (Array.getElem?_eq_some_iff.1 hz').1
            exact ⟨_, by rw [Array.getElem?_setIfInBounds_self_of_lt this]⟩
          · rw [Array.getElem?_setIfInBounds_ne hij]
            exact HC.out i hi
      · go_wp2_with fail
        exact bodyPost_end (results_none rfl _ _ _) rfl ⟨rfl, hf.mono fun k _ h => by subst h; rfl⟩
end Go.Proofs.Ytemjgllijlaejaa
