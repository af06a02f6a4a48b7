/- cut. -/
import Derived.Test.YtkpfgoalohbfeaaSI
namespace Go.Proofs.Ytkpfgoalohbfeaa
open Go.RowKit

theorem flatM_cut : ∀ (ms : List Lt) (vs : List Value) (a : Nat), vs.length = ms.length → flatM (ms.eraseIdx a) (vs.eraseIdx a) = (flatM ms vs).take (a * 6) ++ (flatM ms vs).drop ((a + 1) * 6)
  | [], vs, a, h => by
    have : vs = [] := List.eq_nil_of_length_eq_zero h
    subst this
    simp [flatM]
  | x :: ms, [], a, h => by simp at h
  | x :: ms, u :: vs, 0, h => by simp [flatM]
  | x :: ms, u :: vs, a + 1, h => by
    simp at h
    have := flatM_cut ms vs a h
    simp only [List.eraseIdx_cons_succ, flatM, this, show (a + 1) * 6 = a * 6 + 6 by omega, show (a + 1 + 1) * 6 = (a + 1) * 6 + 6 by omega]
    simp
theorem own_nil0 {w : World} {g : Nat} {t : TypeId} (h : Blk w g t #[]) (size : Nat) : w.ownsRow 0 t size (.slice (some ⟨g, 0, none⟩) 0 0) 0 [] :=
  own_mk h (Nat.le_refl _) (by decide) (by simp) (by simp)
def CutPost (r nb : Nat) (st : Sy) (c : Nat) (G F : Nat → Prop) (a : Nat) (m : Lt) (w : World) (e : Ending) (w' : World) : Prop :=
  ∃ v G' F', e = .returned (mailV m v) ∧ Rm w' r nb (st.cut a) c G' F' ∧ Nx G G' w w' ∧ Nx F F' w w' ∧ Fr G w w' ∧ VtL w' v m.vs G'

/-- The row behind a cut. -/
def CutRow (w1 : World) (r nb : Nat) (st : Sy) (sv : Value) (mv : List Value) (a : Nat) (w' : World) : Prop :=
  ∃ lv', Blk w' r 84 (rmC st.q sv nb st.N lv') ∧ w'.ownsRow 0 68 6 lv' (st.l.eraseIdx a).length (flatM (st.l.eraseIdx a) (mv.eraseIdx a)) ∧ (∀ k, lv'.ownBlock = some k → w1.heap.size ≤ k ∧ k < w'.heap.size) ∧ Fr (fun k => k = r) w1 w'
section
variable {w w1 w2 w3 w' : World} {r nb c : Nat} {st : Sy} {G F : Nat → Prop} {sv lv v2 v3 : Value} {cs : Array Value} {nv : Nat → Nv} {mv news1 news2 : List Value} {Gp : Nat → Nat → Prop} {a m2 : Nat}
theorem RmX.cutrow (h : RmX w1 r nb st c G F sv lv cs nv mv Gp) (ha : a < st.l.length)
    (h2 : Appended 0 68 6 (w1.alloc (.cells #[] 68)).drew (.slice (some ⟨w1.heap.size, 0, none⟩) 0 0) 0 a [] ((flatM st.l mv).take (a * 6)) v2 w2)
    (h3 : Appended 0 68 6 w2 v2 a m2 ([] ++ (flatM st.l mv).take (a * 6)) ((flatM st.l mv).drop ((a + 1) * 6)) v3 w3) (hm : m2 = st.l.length - (a + 1)) :
    CutRow w1 r nb st sv mv a (w3.setCell ⟨r, 6, none⟩ v3) := by
  have hz : (w1.alloc (.cells #[] 68)).drew.heap.size = w1.heap.size + 1 := by simp [World.drew]
  have hf2 : Fr (fun _ => False) w1 w2 := h2.fr ((Fr.refl (fun _ => False) w1).alloc _).drew (fun k hk hlt => by simp only [Value.ownBlock] at hk; injection hk with hk; omega)
  have hs2 := hf2.size
  have hg2 : ∀ k, v2.ownBlock = some k → w1.heap.size ≤ k ∧ k < w2.heap.size := fun k hk => by
    have h4 := (h2.1.lt k hk).2
    rcases h2.2.2 with h5 | h5
    · rw [h5] at hk; simp only [Value.ownBlock] at hk; injection hk with hk; exact ⟨by omega, h4⟩
    · rw [h5] at hk; injection hk with hk; exact ⟨by omega, h4⟩
  have hf3 : Fr (fun _ => False) w1 w3 := h3.fr hf2 (fun k hk hlt => by have := (hg2 k hk).1; omega)
  have hs3 : w2.heap.size ≤ w3.heap.size := (h3.fr (Fr.refl (fun k => v2.ownBlock = some k) w2) (fun k hk _ => hk)).size
  have hg3 : ∀ k, v3.ownBlock = some k → w1.heap.size ≤ k ∧ k < w3.heap.size := fun k hk => by
    have h4 := (h3.1.lt k hk).2
    rcases h3.2.2 with h5 | h5
    · rw [h5] at hk; exact ⟨(hg2 k hk).1, h4⟩
    · rw [h5] at hk; injection hk with hk; exact ⟨by omega, h4⟩
  have hB := (h.blk.fr hf3 (fun h => h)).set_ 6 v3
  refine ⟨v3, by simpa [rmC] using hB, ?_, fun k hk => by have := hg3 k hk; simp; omega, Fr.setCell (X := fun k => k = r) hf3.none_up (p := ⟨r, 6, none⟩) (fun _ => rfl) _⟩
  rw [flatM_cut _ _ _ h.mlen, List.length_eraseIdx, if_pos ha]
  have hrow := h3.1
  rw [List.nil_append, show a + m2 = st.l.length - 1 by omega] at hrow
  exact own_fr hrow (Fr.set1 w3 r 6 v3) (fun k hk e => by have := (hg3 k hk).1; have := h.blk.lt; omega)
theorem RmX.cutfin {w4 w5 : World} {b4 : Nat} {m : Lt} {v lv' : Value} (h : RmX w1 r nb st c G F sv lv cs nv mv Gp) (hx : Rm w r nb st c G F) (hf1 : Fr (fun _ => False) w w1) (hm : st.l[a]? = some m) (hv : mv[a]? = some v)
    (hb4 : w.heap.size ≤ b4) (hb41 : b4 < w1.heap.size) (hrow : w4.ownsRow 0 68 6 lv' (st.l.eraseIdx a).length (flatM (st.l.eraseIdx a) (mv.eraseIdx a)))
    (hg : ∀ k, lv'.ownBlock = some k → w1.heap.size ≤ k ∧ k < w4.heap.size) (hf4 : Fr (fun k => k = r) w1 w4) (hB : Blk w4 r 84 (rmC st.q sv nb st.N lv')) (hf5 : Fr (fun k => k = b4) w4 w5) :
    CutPost r nb st c G F a m w (.returned (mailV m v)) w5 := by
  have hlt := hx.lt
  have hs1 := hf1.size
  have hs4 := hf4.size
  have hs5 := hf5.size
  have hrF := h.GF r h.Gr
  have hrlt := hlt r hrF
  have hfx : Fr (fun k => k = r ∨ k = b4) w1 w5 := (hf4.mono fun _ _ h => .inl h).tr (hf5.mono fun _ _ h => .inr h)
  have hYR : ∀ k, (k = r ∨ k = b4) → Ro F G k := fun k hk => by
    rcases hk with h1 | h1
    · exact .inr (h1 ▸ h.Gr)
    · exact .inl fun h2 => by have := hlt k h2; omega
  have hXX : ∀ k, Ro (fun k => F k ∨ (w1.heap.size ≤ k ∧ k < w5.heap.size)) (fun k => G k ∨ lv'.ownBlock = some k) k → Ro F G k := fun k hk => by
    rcases hk with h1 | h1 | h1
    · exact .inl fun h2 => h1 (.inl h2)
    · exact .inr h1
    · exact .inl fun h2 => by have := hlt k h2; have := (hg k h1).1; omega
  have hput := h.putL (l' := st.l.eraseIdx a) (mv' := mv.eraseIdx a) (lv' := lv') (F' := fun k => F k ∨ (w1.heap.size ≤ k ∧ k < w5.heap.size)) hfx
    (fun k hk => by
      rcases hk with h1 | h1
      · exact .inl h1
      · exact .inr (.inr fun h2 => by have := hlt k h2; omega))
    (hB.fr hf5 (by omega)) (own_fr hrow hf5 (fun k hk e => by have := (hg k hk).1; omega)) (by rw [List.length_eraseIdx, List.length_eraseIdx, h.mlen])
    (fun k hk => .inr ⟨fun h2 => by have := hlt k h2; have := (hg k hk).1; omega, .inr (by have := hg k hk; omega)⟩)
    (fun i m' v' hm' hv' => by
      rw [List.getElem?_eraseIdx] at hm' hv'
      by_cases hi : i < a
      · rw [if_pos hi] at hm' hv'
        exact ((h.lval i m' v' hm' hv').up hfx hYR).mono hXX
      · rw [if_neg hi] at hm' hv'
        exact ((h.lval (i + 1) m' v' hm' hv').up hfx hYR).mono hXX)
    (h.wf.cut a) (fun k hk => .inl hk) (fun k hk => by rcases hk with hk | hk; have := hlt k hk; omega; omega)
  refine ⟨v, _, _, rfl, ⟨_, _, _, _, _, _, hput⟩, fun k hk => ?_, fun k hk => ?_, (hf1.none_up (X := G)).trans hfx (fun k hk h3 => ?_), ((h.lval a m v hm hv).up hfx hYR).mono fun k hk => ?_⟩
  · rcases hk with hk | hk
    · exact .inl hk
    · exact .inr (by have := hg k hk; omega)
  · rcases hk with hk | hk
    · exact .inl hk
    · exact .inr (by omega)
  · rcases h3 with h3 | h3 | h3
    · exact h3
    · exact h3 ▸ h.Gr
    · omega
  · exact hXX k (.inr hk)
end
set_option maxRecDepth 100000 in
set_option maxHeartbeats 16000000 in
theorem cut_any (r nb : Nat) (st : Sy) (c : Nat) (G F : Nat → Prop) (a : Nat) (m : Lt) (w : World) (h : Rm w r nb st c G F) (hm : st.l[a]? = some m) :
    Calls Try.prog 36 #[.pointer (some ⟨r, 0, none⟩), .int .i64 (a : Int)] w (CutPost r nb st c G F a m w) := by
  obtain ⟨i0, hi0, hz0, hz1, hz2⟩ := info_parts mlinfo
  have hx := h
  obtain ⟨sv, lv, cs, nv, mv, Gp, h⟩ := h
  have hal : a < st.l.length := (List.getElem?_eq_some_iff.1 hm).1
  obtain ⟨v, hv⟩ : ∃ v, mv[a]? = some v := ⟨_, List.getElem?_eq_getElem (by rw [h.mlen]; exact hal)⟩
  have hvl := h.lval a m v hm hv
  obtain ⟨⟨A, vc, rfl, -⟩, -⟩ := hvl
  obtain ⟨g, lc, cur, rfl, -, hgB, hlc, hlcm, hcs, htk⟩ : ∃ g cap cur, lv = .slice (some ⟨g, 0, none⟩) st.l.length cap ∧ 0 ≤ g ∧ Blk w g 68 cur ∧ st.l.length ≤ cap ∧ cap ≤ maxLen ∧ cur.size = cap * 6 ∧ cur.toList.take (st.l.length * 6) = flatM st.l mv := by
    rcases own_form h.lrow with ⟨_, h0, _⟩ | h1
    · omega
    · exact h1
  obtain ⟨wa, hwa⟩ : ∃ w1, w1 = w.alloc (.cells #[.int .i64 0, .int .i64 0, .int .i64 0, .int .u64 0, .int .i64 0, .slice none 0 0] 68) := ⟨_, rfl⟩
  have hfa : Fr (fun _ => False) w wa := by rw [hwa]; exact (Fr.refl _ w).alloc _
  obtain ⟨w1, hw1⟩ : ∃ w1, w1 = wa.alloc (.cells #[.int .i64 m.k, .int .i64 (m.fr : Int), .int .i64 (m.dst : Int), .int .u64 (m.n : Int), .int .i64 m.d, .slice A m.vs.length vc] 68) := ⟨_, rfl⟩
  have hf1 : Fr (fun _ => False) w w1 := by rw [hw1]; exact hfa.alloc _
  obtain ⟨b4, hb4⟩ : ∃ b, b = w.heap.size := ⟨_, rfl⟩
  obtain ⟨b5, hb5⟩ : ∃ b, b = wa.heap.size := ⟨_, rfl⟩
  have hR1 : Blk w1 b4 68 mail0 := by rw [hw1, hwa, hb4]; exact (Blk.new _ _ _).alloc _
  have hM1 : Blk w1 b5 68 (mailC m (.slice A m.vs.length vc)) := by rw [hw1, hb5]; exact Blk.new _ _ _
  have hb45 : b5 = b4 + 1 := by rw [hb5, hb4, hwa]; simp
  have hra := h.fr hfa (fun _ _ h => h)
  have hr1 := h.fr hf1 (fun _ _ h => h)
  have r6 : wa.cell? ⟨r, 6, none⟩ = some (.slice (some ⟨g, 0, none⟩) st.l.length lc) := hra.blk.cell 6 rfl
  obtain ⟨q0, q1, q2, q3, q4, q5⟩ := flatM_get st.l mv a m _ hm hv
  have l0 : wa.cell? ⟨g, a * 6, none⟩ = some (.int .i64 m.k) := own_cell hra.lrow _ q0
  have l1 : wa.cell? ⟨g, a * 6 + 1, none⟩ = some (.int .i64 (m.fr : Int)) := own_cell hra.lrow _ q1
  have l2 : wa.cell? ⟨g, a * 6 + 2, none⟩ = some (.int .i64 (m.dst : Int)) := own_cell hra.lrow _ q2
  have l3 : wa.cell? ⟨g, a * 6 + 3, none⟩ = some (.int .u64 (m.n : Int)) := own_cell hra.lrow _ q3
  have l4 : wa.cell? ⟨g, a * 6 + 4, none⟩ = some (.int .i64 m.d) := own_cell hra.lrow _ q4
  have l5 : wa.cell? ⟨g, a * 6 + 5, none⟩ = some (.slice A m.vs.length vc) := own_cell hra.lrow _ q5
  have hl2 := h.wf.len
  have HWA := Lib.hid (And.intro hwa hb4)
  have HW1 := Lib.hid (And.intro hw1 hb5)
  have hB1 : Blk w1 g 68 cur := hgB.fr hf1 (fun h => h)
  have HH := Lib.hid (And.intro hr1 (And.intro hm (And.intro hv (And.intro hB1 (And.intro hcs (And.intro htk hx))))))
  have H1 := Lib.hid (And.intro hf1 (And.intro hR1 (And.intro hM1 (And.intro hb4 hb45))))
  have hal' : (a : Int) < (st.l.length : Int) := by omega
  have p6 : w1.cell? ⟨r, 6, none⟩ = some (.slice (some ⟨g, 0, none⟩) st.l.length lc) := hr1.blk.cell 6 rfl
  have hru : ∀ w2, Fr (fun _ => False) w1 w2 → w2.cell? ⟨r, 6, none⟩ = some (.slice (some ⟨g, 0, none⟩) st.l.length lc) ∧ w2.frozen? ⟨r, 6, none⟩ = false := fun w2 hf => ⟨(hr1.fr hf (fun _ _ h => h)).blk.cell 6 rfl, (hr1.fr hf (fun _ _ h => h)).blk.frozen 6⟩
  have HRU := Lib.hid hru
  clear hwa hw1 h hm hv hx q0 q1 q2 q3 q4 q5 hgB hcs htk hf1 hR1 hM1 hfa hb4 hb5 hb45 hra hr1 hB1 hru
  go_enter Try.func36, Try.ntmps36
  go_upto_region 1 with (fail)
  rw [← HWA.out.1, ← HWA.out.2]
  go_upto_region 2 with (fail)
  rw [← HW1.out.1, ← HW1.out.2]
  clear HWA HW1 l0 l1 l2 l3 l4 l5 r6
  obtain ⟨hX1, hm, hv, hB1, hcs, htk, hx⟩ := HH.out
  have hfl : (flatM st.l mv).length = st.l.length * 6 := flatM_length _ _ hX1.mlen
  have hone : ∀ u ∈ flatM st.l mv, u.oneCell' = true := flatM_one _ _ (fun u hu => by
    obtain ⟨i, hi⟩ := List.getElem?_of_mem hu
    have hil : i < st.l.length := by rw [← hX1.mlen]; exact (List.getElem?_eq_some_iff.1 hi).1
    obtain ⟨⟨A', c', rfl, _⟩, _⟩ := hX1.lval i _ u (List.getElem?_eq_getElem hil) hi
    rfl)
  have hread : ∀ w2, Fr (fun _ => False) w1 w2 → ∀ j u, (flatM st.l mv)[j]? = some u → w2.cell? ⟨g, j, none⟩ = some u := fun w2 hf j u hu => own_cell (hX1.fr hf (fun _ _ h => h)).lrow j hu
  obtain ⟨n1, hn1⟩ : ∃ n1, n1 = (flatM st.l mv).take (a * 6) := ⟨_, rfl⟩
  obtain ⟨n2, hn2⟩ : ∃ n2, n2 = (flatM st.l mv).drop ((a + 1) * 6) := ⟨_, rfl⟩
  have hl1 : n1.length = a * 6 := by rw [hn1, List.length_take, hfl]; omega
  have hl2' : n2.length = (st.l.length - (a + 1)) * 6 := by rw [hn2, List.length_drop, hfl]; omega
  have ho1 : ∀ u ∈ n1, u.oneCell' = true := fun u hu => hone u (by rw [hn1] at hu; exact List.mem_of_mem_take hu)
  have ho2 : ∀ u ∈ n2, u.oneCell' = true := fun u hu => hone u (by rw [hn2] at hu; exact List.mem_of_mem_drop hu)
  have hr1 : ∀ w2, Fr (fun _ => False) w1 w2 → ∀ j u, n1[j]? = some u → w2.cell? (Addr.add ⟨g, 0, none⟩ j) = some u := fun w2 hf j u hu => by
    rw [add_none, Nat.zero_add]
    refine hread w2 hf j u ?_
    rw [hn1, List.getElem?_take] at hu
    split at hu
    · exact hu
    · cases hu
  have hr2 : ∀ w2, Fr (fun _ => False) w1 w2 → ∀ j u, n2[j]? = some u → w2.cell? (Addr.add ⟨g, (a + 1) * 6, none⟩ j) = some u := fun w2 hf j u hu => by
    rw [add_none]
    refine hread w2 hf _ u ?_
    rw [hn2, List.getElem?_drop] at hu
    exact hu
  have HN := Lib.hid (And.intro hn1 hn2)
  have HA := Lib.hid (And.intro hr1 hr2)
  clear hX1 hm hv hB1 hcs htk hx hfl hone hread hn1 hn2 hr1 hr2
  have s0 : (0 : Int) ≤ (a : Int) := by omega
  have s1 : (a : Int) ≤ (lc : Int) := by omega
  have s2 : (a : Int) + 1 ≤ (st.l.length : Int) := by omega
  have s3 : IntKind.i64.wrap ((a : Int) + 1) = (a : Int) + 1 := IntWalk.i64_in _ (by omega)
  have s4 : (0 : Int) ≤ (a : Int) + 1 := by omega
  have s5 : ((a : Int) + 1).toNat = a + 1 := by omega
  have s6 : a + 1 ≤ st.l.length := by omega
  have c60 := al_cell p6 (.cells #[] 68)
  have hz1w : (w1.alloc (.cells #[] 68)).drew.heap.size = w1.heap.size + 1 := by simp [World.drew]
  have hfd : Fr (fun _ => False) w1 (w1.alloc (.cells #[] 68)).drew := ((Fr.refl (fun _ => False) w1).alloc _).drew
  have HAP1 := Lib.hid (fun (ty : TypeId) (cc : Nat) => ap_cells (P := Try.prog) (ty := ty) (base := 0) Try.underlying82 hi0 hz0 hz1 hz2 rfl (by omega) (own_nil0 (Blk.new w1 68 #[]).drew 6) ⟨g, 0, none⟩ a cc n1 hl1 (HA.out.1 _ hfd) ho1 (by unfold maxLen; omega) (by omega) (by omega))
  have hap2u : ∀ (v2 : Value) (w2 : World), Appended 0 68 6 (w1.alloc (.cells #[] 68)).drew (.slice (some ⟨w1.heap.size, 0, none⟩) 0 0) 0 a [] n1 v2 w2 →
      ∃ va vc, v2 = .slice va a vc ∧ Fr (fun _ => False) w1 w2 ∧ (∀ k, v2.ownBlock = some k → w1.heap.size ≤ k) ∧ w2.cell? ⟨r, 6, none⟩ = some (.slice (some ⟨g, 0, none⟩) st.l.length lc) ∧ w2.frozen? ⟨r, 6, none⟩ = false := fun v2 w2 hap2 => by
    obtain ⟨va2, vc2, rfl⟩ := own_sl5 hap2.1
    have hf2 : Fr (fun _ => False) w1 w2 := hap2.fr hfd (fun k hk hlt => by simp only [Value.ownBlock] at hk; injection hk with hk; omega)
    refine ⟨va2, vc2, by rw [Nat.zero_add], hf2, fun k hk => ?_, HRU.out _ hf2⟩
    rcases hap2.2.2 with h5 | h5
    · rw [h5] at hk; simp only [Value.ownBlock] at hk; injection hk with hk; omega
    · rw [h5] at hk; injection hk with hk; omega
  have hap3u : ∀ (v2 v3 : Value) (w2 w3 : World) (m2 : Nat), Appended 0 68 6 (w1.alloc (.cells #[] 68)).drew (.slice (some ⟨w1.heap.size, 0, none⟩) 0 0) 0 a [] n1 v2 w2 → Appended 0 68 6 w2 v2 (0 + a) m2 ([] ++ n1) n2 v3 w3 →
      w3.cell? ⟨r, 6, none⟩ = some (.slice (some ⟨g, 0, none⟩) st.l.length lc) ∧ w3.frozen? ⟨r, 6, none⟩ = false := fun v2 v3 w2 w3 m2 h2 h3 => by
    obtain ⟨_, _, _, hf2, hg2, _⟩ := hap2u v2 w2 h2
    exact HRU.out _ (h3.fr hf2 (fun k hk hlt => by have := hg2 k hk; omega))
  have HU2 := Lib.hid hap2u
  have HU3 := Lib.hid hap3u
  have HAP2 := Lib.hid (fun (ty : TypeId) (cc off : Nat) (v2 : Value) (w2 : World) (h2 : Appended 0 68 6 (w1.alloc (.cells #[] 68)).drew (.slice (some ⟨w1.heap.size, 0, none⟩) 0 0) 0 a [] n1 v2 w2) (ho : off = (a + 1) * 6 ∨ n2 = []) => ap_cells (P := Try.prog) (ty := ty) (base := 0) Try.underlying82 hi0 hz0 hz1 hz2 rfl (by omega) h2.1 ⟨g, off, none⟩ (st.l.length - (a + 1)) cc n2 hl2' (fun j u hu => by
    rcases ho with rfl | h
    · exact HA.out.2 _ (hap2u v2 w2 h2).choose_spec.choose_spec.2.1 j u hu
    · rw [h] at hu; simp at hu) ho2 (by unfold maxLen; omega) (by omega) (by omega))
  have HL2 := Lib.hid hl2'
  clear hap2u hap3u hfd hl1 hl2' ho1 ho2 hi0 hz0 hz1 hz2
  go_cut [] (fun wx => CutRow w1 r nb st sv mv a wx)
  case first =>
    by_cases hlast : lc = a + 1
    · have hn20 : n2 = [] := List.eq_nil_of_length_eq_zero (by rw [HL2.out]; omega)
      have hla : st.l.length = a + 1 := by omega
      have hal0 := hal
      have HN2 := Lib.hid (And.intro hn20 hla)
      rw [hla] at p6 c60 HU2 HU3 HAP2 hl2 hal hal' hlc
      simp only [Nat.sub_self] at HAP2
      subst hlast
      clear hn20 hla
      have s1' : (a : Int) ≤ (a : Int) + 1 := by omega
      have s7 : a + 1 ≤ a + 1 := Nat.le_refl _
      have s8 : (a : Int) + 1 ≤ (a : Int) + 1 := Int.le_refl _
      go_region_law (first
        | (refine step_bi2 rfl .append _ _ _ (.slice (some ⟨w1.heap.size, 0, none⟩) 0 0) (.slice (some ⟨g, 0, none⟩) a (a + 1)) rfl rfl rfl _ (HAP1.out _ _) ?_
           rintro v2 w2 hap2
           obtain ⟨va2, vc2, rfl, -, -, c6, f6⟩ := HU2.out _ _ hap2)
        | (refine step_bi2 rfl .append _ _ _ (.slice va2 a vc2) (.slice (some ⟨g, 0, none⟩) 0 0) rfl rfl rfl _ (HAP2.out _ _ 0 _ _ hap2 (.inr HN2.out.1)) ?_
           rintro v3 w3 hap3
           obtain ⟨d6, e6⟩ := HU3.out _ _ _ _ _ hap2 hap3
           obtain ⟨va3, vc3, rfl⟩ := own_sl5 hap3.1))
      all_goals
        go_wp2_with fail
        go_meet
        rw [HN.out.1] at hap2 hap3
        rw [HN.out.2] at hap3
        simp only [Nat.zero_add, Nat.add_zero] at hap3
        exact HH.out.1.cutrow hal0 hap2 hap3 (by rw [HN2.out.2]; omega)
    · have hlast' : ¬ a + 1 = lc := by omega
      go_region_law (first
        | (refine step_bi2 rfl .append _ _ _ (.slice (some ⟨w1.heap.size, 0, none⟩) 0 0) (.slice (some ⟨g, 0, none⟩) a lc) rfl rfl rfl _ (HAP1.out _ _) ?_
           rintro v2 w2 hap2
           obtain ⟨va2, vc2, rfl, -, -, c6, f6⟩ := HU2.out _ _ hap2)
        | (refine step_bi2 rfl .append _ _ _ (.slice va2 a vc2) (.slice (some ⟨g, (a + 1) * 6, none⟩) (st.l.length - (a + 1)) (lc - (a + 1))) rfl rfl rfl _ (HAP2.out _ _ _ _ _ hap2 (.inl rfl)) ?_
           rintro v3 w3 hap3
           obtain ⟨d6, e6⟩ := HU3.out _ _ _ _ _ hap2 hap3
           obtain ⟨va3, vc3, rfl⟩ := own_sl5 hap3.1))
      all_goals
        go_wp2_with fail
        go_meet
        rw [HN.out.1] at hap2 hap3
        rw [HN.out.2] at hap3
        simp only [Nat.zero_add] at hap3
        exact HH.out.1.cutrow hal hap2 hap3 rfl
  case rest =>
    obtain ⟨w4, hw4⟩ : ∃ w4, w4 = wc := ⟨_, rfl⟩
    rw [← hw4] at hcut ⊢
    clear hw4
    obtain ⟨lv', hB4, hrow4, hg4, hf4⟩ := hcut
    obtain ⟨hf1, hR1, hM1, hb4, hb45⟩ := H1.out
    have hrlt := HH.out.2.2.2.2.2.2.lt r (HH.out.2.2.2.2.2.2.GF r HH.out.1.Gr)
    have hR4 := hR1.fr hf4 (by omega)
    have hM4 := hM1.fr hf4 (by omega)
    have hne : b4 ≠ b5 := by omega
    have hrow := row6 hR4 (.int .i64 m.k) (.int .i64 (m.fr : Int)) (.int .i64 (m.dst : Int)) (.int .u64 (m.n : Int)) (.int .i64 m.d) (.slice A m.vs.length vc)
    have HRow := Lib.hid (And.intro hrow (And.intro hrow4 (And.intro hg4 (And.intro hf4 hB4))))
    have n0 : w4.cell? ⟨b5, 0, none⟩ = some (.int .i64 m.k) := hM4.cell 0 rfl
    have n1 : w4.cell? ⟨b5, 1, none⟩ = some (.int .i64 (m.fr : Int)) := hM4.cell 1 rfl
    have n2 : w4.cell? ⟨b5, 2, none⟩ = some (.int .i64 (m.dst : Int)) := hM4.cell 2 rfl
    have n3 : w4.cell? ⟨b5, 3, none⟩ = some (.int .u64 (m.n : Int)) := hM4.cell 3 rfl
    have n4 : w4.cell? ⟨b5, 4, none⟩ = some (.int .i64 m.d) := hM4.cell 4 rfl
    have n5 : w4.cell? ⟨b5, 5, none⟩ = some (.slice A m.vs.length vc) := hM4.cell 5 rfl
    have r0 : w4.cell? ⟨b4, 0, none⟩ = some (.int .i64 0) := hR4.cell 0 rfl
    have r1 : w4.cell? ⟨b4, 1, none⟩ = some (.int .i64 0) := hR4.cell 1 rfl
    have r2 : w4.cell? ⟨b4, 2, none⟩ = some (.int .i64 0) := hR4.cell 2 rfl
    have r3 : w4.cell? ⟨b4, 3, none⟩ = some (.int .u64 0) := hR4.cell 3 rfl
    have r4 : w4.cell? ⟨b4, 4, none⟩ = some (.int .i64 0) := hR4.cell 4 rfl
    have r5 : w4.cell? ⟨b4, 5, none⟩ = some (.slice none 0 0) := hR4.cell 5 rfl
    have rf := hR4.frozen
    clear hrow hrow4 hg4 hf4 hB4 hR4 hM4 hf1 hR1 hM1 hrlt hb4 hb45
    go_wp2_with fail
    refine bodyPost_ret (results_cell_row rfl _ _ b4 68 (mailC m (.slice A m.vs.length vc)) (0, 0) _ rfl HRow.out.1.1 Try.underlying68 rfl (by kernel_rfl)) rfl ?_
    obtain ⟨⟨hR5, hfr5⟩, hrow4, hg4, hf4, hB4⟩ := HRow.out
    obtain ⟨hf1, hR1, hM1, hb4, hb45⟩ := H1.out
    obtain ⟨hX1, hm, hv, hgB, hcs, htk, hx⟩ := HH.out
    obtain ⟨w5, hw5⟩ : ∃ w5, w5 = (((((w4.setCell ⟨b4, 0, none⟩ (.int .i64 m.k)).setCell ⟨b4, 1, none⟩ (.int .i64 (m.fr : Int))).setCell ⟨b4, 2, none⟩ (.int .i64 (m.dst : Int))).setCell ⟨b4, 3, none⟩ (.int .u64 (m.n : Int))).setCell ⟨b4, 4, none⟩ (.int .i64 m.d)).setCell ⟨b4, 5, none⟩ (.slice A m.vs.length vc) := ⟨_, rfl⟩
    rw [← hw5] at hR5 hfr5 ⊢
    exact hX1.cutfin hx hf1 hm hv (by omega) (by have := hR1.lt; omega) hrow4 hg4 hf4 hB4 hfr5
end Go.Proofs.Ytkpfgoalohbfeaa
