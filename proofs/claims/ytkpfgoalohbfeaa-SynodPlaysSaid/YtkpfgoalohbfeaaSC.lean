/- own, send, all. -/
import Derived.Test.YtkpfgoalohbfeaaSB
import Derived.IntWalk
namespace Go.Proofs.Ytkpfgoalohbfeaa
open Go.RowKit

/-- The first j votes of l lie in a row of their own, each value in a row of its own, all behind w0. -/
structure Cpy (w0 w : World) (v : Value) (l : List Vt) (vs : List Value) : Prop where
  row : w.ownsRow w0.heap.size 46 4 v l.length (flatV l vs)
  len : vs.length = l.length
  val : ∀ (i : Nat) (p : Vt) (s : Value), l[i]? = some p → vs[i]? = some s → w.ownsRow w0.heap.size 5 1 s p.v.length (u8s p.v)
  fr : Fr (fun _ => False) w0 w
section
variable {w0 w w' : World} {v v' : Value} {l : List Vt} {vs : List Value}
theorem Cpy.up (h : Cpy w0 w v l vs) (hf : Fr (fun _ => False) w w') : Cpy w0 w' v l vs :=
  ⟨own_fr h.row hf (fun _ _ h => h), h.len, fun i p s h1 h2 => own_fr (h.val i p s h1 h2) hf (fun _ _ h => h), h.fr.tr hf⟩
theorem Cpy.put1 (h : Cpy w0 w v l vs) {b i : Nat} {u : Value} {t : TypeId} {cs : Array Value} (hB : Blk w b t cs) (hb : w0.heap.size ≤ b) (h1 : 5 ≠ t) (hv : ∀ k, v.ownBlock = some k → k ≠ b) : Cpy w0 (w.setCell ⟨b, i, none⟩ u) v l vs := by
  have hf := Fr.set1 w b i u
  exact ⟨own_fr h.row hf (fun k hk => hv k hk), h.len, fun i p s h3 h4 => own_fr (h.val i p s h3 h4) hf (fun k hk => own_blk_ne (h.val i p s h3 h4) hB h1 k hk), h.fr.setCell (p := ⟨b, i, none⟩) (fun h => by simp only at h; omega) u⟩
theorem Cpy.more {p : Vt} {s : Value} (h : Cpy w0 w v l vs) (hs : w.ownsRow w0.heap.size 5 1 s p.v.length (u8s p.v)) (ha : Appended w0.heap.size 46 4 w v l.length 1 (flatV l vs) [.int .u64 p.s, .int .u64 p.n, .int .i64 p.d, s] v' w') : Cpy w0 w' v' (l ++ [p]) (vs ++ [s]) := by
  have hf : Fr (fun k => v.ownBlock = some k) w w' := (Fr.refl _ w).grown ha.2.1 (fun k hk _ => hk)
  refine ⟨?_, by simp [h.len], fun i q u hq hu => ?_, ha.fr h.fr (fun k hk hlt => by have := (h.row.lt k hk).1; omega)⟩
  · rw [List.length_append, List.length_singleton, flatV_append _ _ _ _ h.len]
    exact ha.1
  · by_cases hi : i < l.length
    · rw [List.getElem?_append_left hi] at hq
      rw [List.getElem?_append_left (by rw [h.len]; exact hi)] at hu
      exact own_fr (h.val i q u hq hu) hf (fun k hk e => own_own_ne (h.val i q u hq hu) h.row (by decide) k k hk e rfl)
    · have hi' : i = l.length := by
        have := (List.getElem?_eq_some_iff.1 hq).1
        simp at this; omega
      subst hi'
      rw [List.getElem?_append_right (Nat.le_refl _)] at hq
      rw [List.getElem?_append_right (by rw [h.len]; exact Nat.le_refl _), h.len] at hu
      simp at hq hu
      subst hq hu
      exact own_fr hs hf (fun k hk e => own_own_ne hs h.row (by decide) k k hk e rfl)
theorem Cpy.nil (w : World) : Cpy w w (.slice none 0 0) [] [] := ⟨World.ownsRow_nil _ _ _ _, rfl, fun i p s h => by simp at h, Fr.refl _ _⟩
/-- A vote of numbers in their bounds. -/
def VtM (p : Vt) : Prop := p.s < 18446744073709551616 ∧ p.n < 18446744073709551616 ∧ -9223372036854775808 ≤ p.d ∧ p.d ≤ 9223372036854775807 ∧ p.v.length ≤ maxLen
theorem Cpy.vtl (h : Cpy w0 w v l vs) (hn : ∀ p ∈ l, VtM p) (hl : l.length ≤ maxLen) : VtL w v l (fun k => k < w0.heap.size ∨ w.heap.size ≤ k) := by
  rcases own_form h.row with ⟨rfl, hL, _⟩ | ⟨g, cap, cur, rfl, hg0, hg, _⟩
  · have : l = [] := List.eq_nil_of_length_eq_zero hL
    subst this
    exact VtL.nil _ _
  · have hrow := own_base h.row
    refine ⟨⟨_, cap, rfl, fun i p hp => ?_⟩, hl⟩
    have hi : i < vs.length := by rw [h.len]; exact (List.getElem?_eq_some_iff.1 hp).1
    obtain ⟨e1, e2, e3, e4⟩ := flatV_get _ _ i _ _ hp (List.getElem?_eq_getElem hi)
    have ho := h.val i p _ hp (List.getElem?_eq_getElem hi)
    obtain ⟨n1, n2, n3, n4, n5⟩ := hn p (List.mem_of_getElem? hp)
    refine ⟨g, 0, vs[i], rfl, by have := hg.lt; omega, ⟨by rw [Nat.zero_add]; exact own_cell hrow _ e1, by rw [Nat.zero_add]; exact own_cell hrow _ e2, by rw [Nat.zero_add]; exact own_cell hrow _ e3, by rw [Nat.zero_add]; exact own_cell hrow _ e4, Byt.of_own ho, n5, n1, n2, n3, n4⟩, fun k hk _ => ?_⟩
    have := ho.lt k hk
    omega
end
theorem own_sl5 {w : World} {base e size n : Nat} {v : Value} {xs : List Value} (h : w.ownsRow base e size v n xs) : ∃ va vc, v = .slice va n vc := by
  rcases own_form h with ⟨h1, h2, _⟩ | ⟨g, cap, cur, h1, _⟩
  · exact ⟨none, 0, by rw [h1, h2]⟩
  · exact ⟨some ⟨g, 0, none⟩, cap, h1⟩
/-- Other rows turned, behind w0. -/
theorem Cpy.off {w0 w w' : World} {v : Value} {l : List Vt} {vs : List Value} {X : Nat → Prop} (h : Cpy w0 w v l vs) (hf : Fr X w w') (hX : ∀ k, X k → w0.heap.size ≤ k ∧ ∃ t cs, Blk w k t cs ∧ 46 ≠ t ∧ 5 ≠ t) : Cpy w0 w' v l vs := by
  refine ⟨own_fr h.row hf (fun k hk hx => ?_), h.len, fun i p s h1 h2 => own_fr (h.val i p s h1 h2) hf (fun k hk hx => ?_), h.fr.trans hf (fun k hk hx => by rcases hx with hx | hx; exact hx; have := (hX k hx).1; omega)⟩
  · obtain ⟨_, t, cs, hB, hn, _⟩ := hX k hx
    exact own_blk_ne h.row hB hn k hk rfl
  · obtain ⟨_, t, cs, hB, _, hn⟩ := hX k hx
    exact own_blk_ne (h.val i p s h1 h2) hB hn k hk rfl

def mailV (m : Lt) (v : Value) : Value := .agg #[.int .i64 m.k, .int .i64 (m.fr : Int), .int .i64 (m.dst : Int), .int .u64 (m.n : Int), .int .i64 m.d, v]
def mailC (m : Lt) (v : Value) : Array Value := #[.int .i64 m.k, .int .i64 (m.fr : Int), .int .i64 (m.dst : Int), .int .u64 (m.n : Int), .int .i64 m.d, v]
def mail0 : Array Value := #[.int .i64 0, .int .i64 0, .int .i64 0, .int .u64 0, .int .i64 0, .slice none 0 0]
theorem row6 {w : World} {b : Nat} {T : TypeId} {a0 a1 a2 a3 a4 a5 : Value} (hB : Blk w b T #[a0, a1, a2, a3, a4, a5]) (x0 x1 x2 x3 x4 x5 : Value) :
    Blk ((((((w.setCell ⟨b, 0, none⟩ x0).setCell ⟨b, 1, none⟩ x1).setCell ⟨b, 2, none⟩ x2).setCell ⟨b, 3, none⟩ x3).setCell ⟨b, 4, none⟩ x4).setCell ⟨b, 5, none⟩ x5) b T #[x0, x1, x2, x3, x4, x5] ∧
    Fr (fun k => k = b) w ((((((w.setCell ⟨b, 0, none⟩ x0).setCell ⟨b, 1, none⟩ x1).setCell ⟨b, 2, none⟩ x2).setCell ⟨b, 3, none⟩ x3).setCell ⟨b, 4, none⟩ x4).setCell ⟨b, 5, none⟩ x5) :=
  ⟨by simpa using (((((hB.set_ 0 x0).set_ 1 x1).set_ 2 x2).set_ 3 x3).set_ 4 x4).set_ 5 x5,
    (((((Fr.set1 w b 0 _).setCell (p := ⟨b, 1, none⟩) (fun _ => rfl) _).setCell (p := ⟨b, 2, none⟩) (fun _ => rfl) _).setCell (p := ⟨b, 3, none⟩) (fun _ => rfl) _).setCell (p := ⟨b, 4, none⟩) (fun _ => rfl) _).setCell (p := ⟨b, 5, none⟩) (fun _ => rfl) _⟩
theorem VtL.vtm {w : World} {v : Value} {l : List Vt} {X : Nat → Prop} (h : VtL w v l X) : ∀ p ∈ l, VtM p := fun p hp => by
  obtain ⟨⟨A, c, _, he⟩, _⟩ := h
  obtain ⟨i, hi⟩ := List.getElem?_of_mem hp
  obtain ⟨b, off, s, _, _, hat, _⟩ := he i p hi
  exact ⟨hat.s64, hat.n64, hat.d0, hat.d1, hat.l⟩

def OwnPost (m : Lt) (w : World) (e : Ending) (w' : World) : Prop := ∃ va vc vs, e = .returned (mailV m (.slice va m.vs.length vc)) ∧ Cpy w w' (.slice va m.vs.length vc) m.vs vs
set_option maxRecDepth 100000 in
set_option maxHeartbeats 8000000 in
theorem own_any (m : Lt) (v : Value) (X : Nat → Prop) (w : World) (hl : VtL w v m.vs X) (hll : m.vs.length ≤ 1000) (hb : ∀ p ∈ m.vs, p.v.length ≤ 1000) :
    Calls Try.prog 54 #[mailV m v] w (OwnPost m w) := by
  obtain ⟨i0, hi0, hz0, hz1, hz2⟩ := info_parts vtinfo
  obtain ⟨mk, mfr, mto, mn, md, l⟩ := m
  simp only at hl hll hb
  simp only [mailV]
  have HB := Lib.hid hb
  obtain ⟨⟨A, c, rfl, hl1⟩, -⟩ := hl
  have HL := Lib.hid hl1
  clear hl1 hb
  obtain ⟨w1, hw1⟩ : ∃ w1, w1 = (w.alloc (.cells #[.int .i64 mk, .int .i64 (mfr : Int), .int .i64 (mto : Int), .int .u64 (mn : Int), .int .i64 md, .slice A l.length c] 68)).alloc (.cells #[.int .i64 0, .int .i64 0, .int .i64 0, .int .u64 0, .int .i64 0, .slice none 0 0] 68) := ⟨_, rfl⟩
  have hM1 : Blk w1 w.heap.size 68 #[.int .i64 mk, .int .i64 (mfr : Int), .int .i64 (mto : Int), .int .u64 (mn : Int), .int .i64 md, .slice A l.length c] := by rw [hw1]; exact (Blk.new _ _ _).alloc _
  have hR1 : Blk w1 (w.heap.size + 1) 68 #[.int .i64 0, .int .i64 0, .int .i64 0, .int .u64 0, .int .i64 0, .slice none 0 0] := by
    have := Blk.new (w.alloc (.cells #[.int .i64 mk, .int .i64 (mfr : Int), .int .i64 (mto : Int), .int .u64 (mn : Int), .int .i64 md, .slice A l.length c] 68)) 68 #[.int .i64 0, .int .i64 0, .int .i64 0, .int .u64 0, .int .i64 0, .slice none 0 0]
    rw [hw1]; simpa using this
  have hf1 : Fr (fun _ => False) w w1 := by rw [hw1]; exact ((Fr.refl _ w).alloc _).alloc _
  have HW1 := Lib.hid hw1
  clear hw1
  have m5 := hM1.cell 5 rfl
  go_enter Try.func54, Try.ntmps54
  go_upto_region 1 with (fail)
  rw [← HW1.out]
  clear HW1
  obtain ⟨bm, hbm⟩ : ∃ b, b = w.heap.size := ⟨_, rfl⟩
  rw [← hbm] at hM1 hR1 m5 ⊢
  obtain ⟨br, hbr⟩ : ∃ b, b = bm + 1 := ⟨_, rfl⟩
  rw [← hbr] at hR1 ⊢
  have HBM := Lib.hid (And.intro hbm hbr)
  have hC1 : Cpy w w1 (.slice none 0 0) [] [] := (Cpy.nil w).up hf1
  clear hbm hbr hf1
  go_wp2_with fail
  go_loopg [3, 9] l.length (fun g x3 x9 wr => ∃ (j : Nat) (va : Option Addr) (vc : Nat) (vs : List Value), j + g = l.length ∧ x9 = .int .i64 j ∧ x3 = .slice va j vc ∧ Cpy w wr (.slice va j vc) (l.take j) vs ∧
    Blk wr bm 68 #[.int .i64 mk, .int .i64 (mfr : Int), .int .i64 (mto : Int), .int .u64 (mn : Int), .int .i64 md, .slice A l.length c] ∧ Blk wr br 68 #[.int .i64 0, .int .i64 0, .int .i64 0, .int .u64 0, .int .i64 0, .slice none 0 0])
  case atStart => exact ⟨0, none, 0, [], by omega, rfl, rfl, hC1, hM1, hR1⟩
  case round =>
    clear hC1 hM1 hR1 m5 w1
    obtain ⟨j, va, vc, gs, hj, rfl, rfl, hcop, hM, hR⟩ := hrel
    have HJ := Lib.hid hj
    have HCop := Lib.hid hcop
    have HMR := Lib.hid (And.intro hM hR)
    have hj' : j ≤ l.length := by omega
    have hfrr := hcop.fr
    clear hj hcop hM hR
    by_cases hjl : j < l.length
    · obtain ⟨p, hp⟩ : ∃ p, l[j]? = some p := ⟨_, List.getElem?_eq_getElem hjl⟩
      obtain ⟨b, off, s, rfl, -, hat, -⟩ := HL.out j p hp
      have hpl := HB.out p (List.mem_of_getElem? hp)
      have hby := hat.by_.fr hfrr (fun _ _ h => h)
      have hbyw := hat.by_
      obtain ⟨sa, sc, rfl, -, -⟩ := hbyw
      have q0 := hfrr.cell hat.c0 (fun h => h)
      have q1 := hfrr.cell hat.c1 (fun h => h)
      have q2 := hfrr.cell hat.c2 (fun h => h)
      have q3 := hfrr.cell hat.c3 (fun h => h)
      have HP := Lib.hid hp
      obtain ⟨w4, hw4⟩ : ∃ w4, w4 = wr.alloc (.cells #[.int .u64 p.s, .int .u64 p.n, .int .i64 p.d, .slice sa p.v.length sc] 46) := ⟨_, rfl⟩
      have hf4 : Fr (fun _ => False) wr w4 := by rw [hw4]; exact (Fr.refl _ wr).alloc _
      obtain ⟨bv, hbv⟩ : ∃ b, b = wr.heap.size := ⟨_, rfl⟩
      have hV4 : Blk w4 bv 46 #[.int .u64 p.s, .int .u64 p.n, .int .i64 p.d, .slice sa p.v.length sc] := by rw [hw4, hbv]; exact Blk.new _ _ _
      have hby4 := hby.fr hf4 (fun _ _ h => h)
      have hC4 := HCop.out.up hf4
      have hM4 := And.intro (HMR.out.1.fr hf4 (fun h => h)) (HMR.out.2.fr hf4 (fun h => h))
      have hbvne : ∀ k, (Value.slice va j vc).ownBlock = some k → k ≠ bv := fun k hk => by
        have := own_lt (own_base HCop.out.row) (k := k) hk
        omega
      have hbv3 : w.heap.size ≤ bv := by rw [hbv]; exact HCop.out.fr.size
      have hbmv : bm ≠ bv ∧ br ≠ bv := by have := HMR.out.1.lt; have := HMR.out.2.lt; omega
      have HW4 := Lib.hid hw4
      have HBV := Lib.hid hbv
      have HNe := Lib.hid (And.intro hbvne (And.intro hbv3 hbmv))
      clear hat hp hw4 hf4 hbv hby hbvne hbv3 hbmv
      go_upto_region 5 with (fail)
      rw [← HW4.out, ← HBV.out]
      clear HW4 HBV q0 q1 q2 q3
      have v3 := al_cell (hV4.cell 3 rfl) (.cells #[] 5)
      go_upto_region 6 with (first
        | (at_builtin
           refine wpList_bi2 rfl .append _ _ _ _ _ rfl rfl rfl _ (ap_new w4 _ p.v hby4 (by omega) _) ?_
           rintro v' w5 ⟨g5, c5, rfl, hg5, hgl5, ho5, hf5⟩
           clear v3
           have v3 := (hV4.fr hf5 (fun h => h)).cell 3 rfl
           have f3 := (hV4.fr hf5 (fun h => h)).frozen 3))
      have hV5 := hV4.fr hf5 (fun h => h)
      have hC5 := hC4.up hf5
      have hM5 := And.intro (hM4.1.fr hf5 (fun h => h)) (hM4.2.fr hf5 (fun h => h))
      have ho5 := own_up (base := w.heap.size) ho5 (fun k hk => by simp only [Value.ownBlock] at hk; injection hk with hk; have := hC4.fr.size; omega)
      have hfs5 : w.heap.size ≤ w4.heap.size := hC4.fr.size
      clear v3 f3 hV4 hC4 hf5 hby4 hM4
      obtain ⟨w6, hw6⟩ : ∃ w6, w6 = w5.setCell ⟨bv, 3, none⟩ (.slice (some ⟨g5, 0, none⟩) p.v.length c5) := ⟨_, rfl⟩
      have hV6 : Blk w6 bv 46 #[.int .u64 p.s, .int .u64 p.n, .int .i64 p.d, .slice (some ⟨g5, 0, none⟩) p.v.length c5] := by rw [hw6]; simpa using hV5.set_ 3 (.slice (some ⟨g5, 0, none⟩) p.v.length c5)
      have hC6 : Cpy w w6 (.slice va j vc) (l.take j) gs := by rw [hw6]; exact hC5.put1 hV5 HNe.out.2.1 (by decide) HNe.out.1
      have ho6 : w6.ownsRow w.heap.size 5 1 (.slice (some ⟨g5, 0, none⟩) p.v.length c5) p.v.length (u8s p.v) := by
        rw [hw6]
        exact own_fr ho5 (Fr.set1 w5 bv 3 _) (fun k hk => own_blk_ne ho5 hV5 (by decide) k hk)
      have hM6 := And.intro (hM5.1.fr (Fr.set1 w5 bv 3 (.slice (some ⟨g5, 0, none⟩) p.v.length c5)) HNe.out.2.2.1) (hM5.2.fr (Fr.set1 w5 bv 3 (.slice (some ⟨g5, 0, none⟩) p.v.length c5)) HNe.out.2.2.2)
      rw [← hw6] at hM6
      rw [← hw6]
      clear hw6 hV5 hC5 ho5 hM5
      have v0 := hV6.cell 0 rfl
      have v1 := hV6.cell 1 rfl
      have v2 := hV6.cell 2 rfl
      have v3 := hV6.cell 3 rfl
      obtain ⟨w7, hw7⟩ : ∃ w7, w7 = w6.alloc (.cells #[.int .u64 p.s, .int .u64 p.n, .int .i64 p.d, .slice (some ⟨g5, 0, none⟩) p.v.length c5] 46) := ⟨_, rfl⟩
      have hf7 : Fr (fun _ => False) w6 w7 := by rw [hw7]; exact (Fr.refl _ w6).alloc _
      have hC7 := hC6.up hf7
      have ho7 := own_fr ho6 hf7 (fun _ _ h => h)
      have hM7 := And.intro (hM6.1.fr hf7 (fun h => h)) (hM6.2.fr hf7 (fun h => h))
      have hn7 : ∀ i u, [Value.int .u64 p.s, .int .u64 p.n, .int .i64 p.d, .slice (some ⟨g5, 0, none⟩) p.v.length c5][i]? = some u → w7.cell? (Addr.add ⟨w6.heap.size, 0, none⟩ i) = some u := by
        rw [hw7]; exact World.news_of_block (cs := #[.int .u64 p.s, .int .u64 p.n, .int .i64 p.d, .slice (some ⟨g5, 0, none⟩) p.v.length c5]) (t := 46) (fr := (0, 0)) (heap_alloc_new w6 _)
      have hrow := hC7.row
      have htl : (l.take j).length = j := by simp; omega
      rw [htl] at hrow
      have hz7 := hC7.fr.size
      have HW7 := Lib.hid hw7
      have HC7 := Lib.hid (And.intro hC7 (And.intro ho7 (And.intro htl hM7)))
      have hrm : ∀ k, (Value.slice va j vc).ownBlock = some k → k ≠ bm ∧ k ≠ br := fun k hk => ⟨own_blk_ne hrow hM7.1 (by decide) k hk, own_blk_ne hrow hM7.2 (by decide) k hk⟩
      have HRM := Lib.hid hrm
      clear hw7 hf7 hC7 ho7 hC6 ho6 hV6 htl hM6 hM7 hrm
      go_wp2_with (first
        | (at_builtin
           rw [← HW7.out]
           clear HW7
           refine wpList_bi2 rfl .append _ _ _ _ _ rfl rfl rfl _ (ap_cells (base := w.heap.size) Try.underlying51 hi0 hz0 hz1 hz2 rfl (by omega) hrow ⟨w6.heap.size, 0, none⟩ 1 1 [.int .u64 p.s, .int .u64 p.n, .int .i64 p.d, .slice (some ⟨g5, 0, none⟩) p.v.length c5] rfl hn7 (by simp [Value.oneCell']) (by unfold maxLen; omega) (by omega) hz7) ?_
           rintro v' w8 hap
           obtain ⟨va8, vc8, rfl⟩ := own_sl5 hap.1))
      go_roundg (l.length - (j + 1))
      case measure => have := HJ.out; omega
      case rel =>
        obtain ⟨hC7, ho7, htl, hM7⟩ := HC7.out
        have hfa : Fr (fun k => (Value.slice va j vc).ownBlock = some k) w7 w8 := (Fr.refl _ w7).grown hap.2.1 (fun k hk _ => hk)
        refine ⟨j + 1, va8, vc8, gs ++ [.slice (some ⟨g5, 0, none⟩) p.v.length c5], by have := HJ.out; omega, by go_num, rfl, ?_, hM7.1.fr hfa (fun e => (HRM.out bm e).1 rfl), hM7.2.fr hfa (fun e => (HRM.out br e).2 rfl)⟩
        have := hC7.more ho7 (by rw [htl]; exact hap)
        rwa [show l.take j ++ [p] = l.take (j + 1) by rw [List.take_add_one, HP.out]; rfl] at this
    · obtain rfl : j = l.length := by omega
      have hC := HCop.out
      rw [List.take_length] at hC
      have HC := Lib.hid hC
      have m0 := HMR.out.1.cell 0 rfl
      have m1 := HMR.out.1.cell 1 rfl
      have m2 := HMR.out.1.cell 2 rfl
      have m3 := HMR.out.1.cell 3 rfl
      have m4 := HMR.out.1.cell 4 rfl
      have m5 := HMR.out.1.cell 5 rfl
      have mf := HMR.out.1.frozen 5
      clear hC HCop hfrr
      go_upto_region 9 with (fail)
      obtain ⟨w8, hw8⟩ : ∃ w8, w8 = wr.setCell ⟨bm, 5, none⟩ (.slice va l.length vc) := ⟨_, rfl⟩
      rw [← hw8]
      have hne : br ≠ bm := by have := HBM.out; omega
      have hM8 : Blk w8 bm 68 #[.int .i64 mk, .int .i64 (mfr : Int), .int .i64 (mto : Int), .int .u64 (mn : Int), .int .i64 md, .slice va l.length vc] := by rw [hw8]; simpa using HMR.out.1.set_ 5 (.slice va l.length vc)
      have hR8 := HMR.out.2.fr (Fr.set1 wr bm 5 (.slice va l.length vc)) hne
      rw [← hw8] at hR8
      have hf8 : Fr (fun k => k = bm) wr w8 := by rw [hw8]; exact Fr.set1 _ _ _ _
      clear m0 m1 m2 m3 m4 m5 mf hw8
      have m0 := hM8.cell 0 rfl
      have m1 := hM8.cell 1 rfl
      have m2 := hM8.cell 2 rfl
      have m3 := hM8.cell 3 rfl
      have m4 := hM8.cell 4 rfl
      have m5 := hM8.cell 5 rfl
      have r0 := hR8.cell 0 rfl
      have r1 := hR8.cell 1 rfl
      have r2 := hR8.cell 2 rfl
      have r3 := hR8.cell 3 rfl
      have r4 := hR8.cell 4 rfl
      have r5 := hR8.cell 5 rfl
      have rf := hR8.frozen
      have hrow := row6 hR8 (.int .i64 mk) (.int .i64 (mfr : Int)) (.int .i64 (mto : Int)) (.int .u64 (mn : Int)) (.int .i64 md) (.slice va l.length vc)
      have HRow := Lib.hid (And.intro hrow (And.intro hf8 hne))
      clear hrow hf8 hM8 hR8 hne
      go_wp2_with fail
      refine bodyPost_ret (results_cell_row rfl _ _ br 68 #[.int .i64 mk, .int .i64 (mfr : Int), .int .i64 (mto : Int), .int .u64 (mn : Int), .int .i64 md, .slice va l.length vc] (0, 0) _ rfl HRow.out.1.1 Try.underlying68 rfl (by kernel_rfl)) rfl ⟨va, vc, gs, rfl, ?_⟩
      have hfx : Fr (fun k => k = bm ∨ k = br) wr _ := (HRow.out.2.1.mono (fun _ _ h => .inl h)).tr (HRow.out.1.2.mono (fun _ _ h => .inr h))
      have hbm := HBM.out
      have hMM := HMR.out
      exact HC.out.off hfx (fun k hk => ⟨by rcases hk with h | h <;> omega, by rcases hk with h | h; exact ⟨_, _, h ▸ hMM.1, by decide, by decide⟩; exact ⟨_, _, h ▸ hMM.2, by decide, by decide⟩⟩)
end Go.Proofs.Ytkpfgoalohbfeaa
