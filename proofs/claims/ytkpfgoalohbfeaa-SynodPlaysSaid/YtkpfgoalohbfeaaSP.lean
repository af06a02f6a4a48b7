/- New. -/
import Derived.Test.YtkpfgoalohbfeaaSN
namespace Go.Proofs.Ytkpfgoalohbfeaa
open Go.RowKit

def nd0 : Nd := ⟨0, 0, ⟨0, 0, 0, []⟩, 0, none, 0, 0, [], [], false⟩
def nv0 : Nv := ⟨.slice none 0 0, .pointer none, .slice none 0 0, .slice none 0 0⟩
def room0 (q : Qu) : Sy := ⟨q, fun _ => nd0, []⟩
theorem zeroV_wf' : VWf ⟨0, 0, 0, []⟩ := zeroV_wf
theorem room0_wf {q : Qu} (h : rightE q = 0) (hl : q.s.length ≤ 1000) : SWf (room0 q) where
  ok := ok_of h
  ql := hl
  nd := fun i _ => ⟨Nat.zero_le _, Int.le_refl _, by show (0 : Int) < 12; omega, zeroV_wf, Nat.zero_le _, Nat.zero_le _, Int.le_refl _, by show (0 : Int) < 12; omega, Nat.zero_le _, Nat.zero_le _, fun p hp => by cases hp⟩
  lt := fun m hm => by simp [room0] at hm
  len := Nat.zero_le _
def ndZ : Array Value := (ndC nd0 nv0).toArray
theorem made_get (N a j : Nat) (z : Value) (ha : a < N) (h : (ndC nd0 nv0)[j]? = some z) : (madeCells ndZ (N * 13))[a * 13 + j]? = some z := by
  have hj : j < 13 := (List.getElem?_eq_some_iff.1 h).1
  have hm : (a * 13 + j) % 13 = j := by omega
  have hz : ndZ.size = 13 := rfl
  have hlt : a * 13 + j < N * 13 := by omega
  have h2 : ndZ[j]? = some z := by unfold ndZ; simpa using h
  unfold madeCells
  rw [Array.getElem?_map, Array.getElem?_range, if_pos hlt]
  simp only [Option.map_some, hz, hm]
  rw [getElem!_def, h2]
theorem ndinfo : (Try.prog.info? 80).map (fun i => (i.zero, i.size, i.bytes)) = some (some (.agg ndZ), 13, 152) := by kernel_rfl

set_option maxRecDepth 100000 in
set_option maxHeartbeats 4000000 in
theorem snew_bad (q : Qu) (s : Value) (w : World) (hs : Ints w s q.s) (hl : q.s.length ≤ 1000) (h : ¬ rightE q = 0) :
    Calls Try.prog 24 #[q.v s] w fun e w' => e = .returned (.tuple #[.pointer none, .int .i64 (rightE q)]) ∧ Fr (fun _ => False) w w' := by
  have HC := Lib.hid (right_any q s)
  obtain ⟨k, N, o, t, l⟩ := q
  have hs0 := hs
  obtain ⟨A, c, rfl, -⟩ := hs0
  have hf := ((Fr.refl (fun _ => False) w).alloc (.cells #[.int .i64 k, .int .i64 N, .int .i64 o, .int .i64 t, .slice A l.length c] 24))
  have HF := Lib.hid (And.intro hf (hs.up hf))
  simp only [Qu.v] at hl HC ⊢
  obtain ⟨E, hE⟩ : ∃ E, E = rightE ⟨k, N, o, t, l⟩ := ⟨_, rfl⟩
  rw [← hE] at h HC ⊢
  have h' : (E == 0) = false := by simp [h]
  have h'' : (E != 0) = true := by simp [h]
  clear hf hs h hE
  go_enter Try.func24, Try.ntmps24
  go_wp2_with fail
  refine (HC.out _ HF.out.2 hl).mono ?_
  rintro e w2 ⟨rfl, hf2⟩
  go_wp2_with fail
  go_ret2
  exact ⟨rfl, HF.out.1.tr hf2⟩

def SNewPost (q : Qu) (w : World) (e : Ending) (w' : World) : Prop := ∃ r nb G, e = .returned (.tuple #[.pointer (some ⟨r, 0, none⟩), .int .i64 0]) ∧
  Rm w' r nb (room0 q) 0 G (fun k => w.heap.size ≤ k ∧ k < w'.heap.size) ∧ Fr (fun _ => False) w w'
theorem snew_fin {w w5 : World} {q : Qu} {N g cap : Nat} (hN : q.n = (N : Int)) (he : rightE q = 0) (hl : q.s.length ≤ 1000) (hf : Fr (fun _ => False) w w5) (ho : w5.ownsRow 0 3 1 (.slice (some ⟨g, 0, none⟩) q.s.length cap) q.s.length (i64s q.s)) (hg : w.heap.size ≤ g) :
    SNewPost q w (.returned (.tuple #[.pointer (some ⟨w5.heap.size + 1, 0, none⟩), .int .i64 0])) ((w5.alloc (.cells (madeCells ndZ (N * 13)) 80)).alloc (.cells #[.int .i64 q.k, .int .i64 q.n, .int .i64 q.o, .int .i64 q.t, .slice (some ⟨g, 0, none⟩) q.s.length cap, .slice (some ⟨w5.heap.size, 0, none⟩) N N, .slice none 0 0] 84)).drew := by
  have hNN : (room0 q).N = N := by show q.n.toNat = N; rw [hN]; rfl
  have hs5 := hf.size
  have h1 := Blk.new w5 80 (madeCells ndZ (N * 13))
  have h2 := Blk.new (w5.alloc (.cells (madeCells ndZ (N * 13)) 80)) 84 #[.int .i64 q.k, .int .i64 q.n, .int .i64 q.o, .int .i64 q.t, .slice (some ⟨g, 0, none⟩) q.s.length cap, .slice (some ⟨w5.heap.size, 0, none⟩) N N, .slice none 0 0]
  have hz1 : (w5.alloc (.cells (madeCells ndZ (N * 13)) 80)).heap.size = w5.heap.size + 1 := by simp
  rw [hz1] at h2
  have hA : Fr (fun _ => False) w5 ((w5.alloc (.cells (madeCells ndZ (N * 13)) 80)).alloc (.cells #[.int .i64 q.k, .int .i64 q.n, .int .i64 q.o, .int .i64 q.t, .slice (some ⟨g, 0, none⟩) q.s.length cap, .slice (some ⟨w5.heap.size, 0, none⟩) N N, .slice none 0 0] 84)).drew := (((Fr.refl _ w5).alloc _).alloc _).drew
  have hB : Fr (fun _ => False) (w5.alloc (.cells (madeCells ndZ (N * 13)) 80)) ((w5.alloc (.cells (madeCells ndZ (N * 13)) 80)).alloc (.cells #[.int .i64 q.k, .int .i64 q.n, .int .i64 q.o, .int .i64 q.t, .slice (some ⟨g, 0, none⟩) q.s.length cap, .slice (some ⟨w5.heap.size, 0, none⟩) N N, .slice none 0 0] 84)).drew := (((Fr.refl _ _).alloc _)).drew
  have h1' := h1.fr hB (fun h => h)
  have h2' := h2.drew
  have ho' := own_fr ho hA (fun _ _ h => h)
  have hg5 := (ho.lt g rfl).2
  generalize hw' : ((w5.alloc (.cells (madeCells ndZ (N * 13)) 80)).alloc (.cells #[.int .i64 q.k, .int .i64 q.n, .int .i64 q.o, .int .i64 q.t, .slice (some ⟨g, 0, none⟩) q.s.length cap, .slice (some ⟨w5.heap.size, 0, none⟩) N N, .slice none 0 0] 84)).drew = w' at *
  have hl1 := h1'.lt
  have hl2 := h2'.lt
  refine ⟨w5.heap.size + 1, w5.heap.size, fun k => k = w5.heap.size + 1 ∨ k = w5.heap.size, rfl, ⟨.slice (some ⟨g, 0, none⟩) q.s.length cap, .slice none 0 0, madeCells ndZ (N * 13), fun _ => nv0, [], fun _ _ => False, ?_⟩, hf.tr hA⟩
  have hbn : ∀ X : Nat → Prop, RoB w' X (fun k => k = w5.heap.size + 1 ∨ k = w5.heap.size) (.slice none 0 0) [] := fun X => ⟨⟨none, 0, rfl, fun _ => rfl, fun h => absurd rfl h⟩, fun k hk _ => by cases hk⟩
  refine ⟨?_, ho', fun k hk => ?_, h1', ?_, fun a ha j z hz => ?_, World.ownsRow_nil _ _ _ _, rfl, fun i m v hi => ?_, fun a ha => ⟨hbn _, hbn _, hbn _⟩, fun a ha => .inl ⟨rfl, rfl⟩, fun k hk => ?_, .inl rfl, .inr rfl, fun k hk => (by cases hk), fun a k _ h => h.elim, fun a ha => ⟨id, id, fun _ _ h => h⟩, fun a b k _ _ _ h => h.elim, fun k hk => hk.2, room0_wf he hl⟩
  · show Blk w' (w5.heap.size + 1) _ (rmC q _ _ (room0 q).N _)
    rw [hNN]; exact h2'
  · simp only [Value.ownBlock] at hk
    injection hk with hk
    subst hk
    exact ⟨⟨hg, by omega⟩, by omega⟩
  · rw [size_madeCells, hNN]
  · rw [hNN] at ha
    exact made_get N a j z ha hz
  · simp [room0] at hi
  · rcases hk with rfl | rfl
    · exact ⟨by omega, hl2⟩
    · exact ⟨by omega, hl1⟩
set_option maxRecDepth 100000 in
set_option maxHeartbeats 8000000 in
theorem snew_ok (q : Qu) (s : Value) (w : World) (hs : Ints w s q.s) (hnil : ∀ c, s = .slice none 0 c → c = 0) (hl : q.s.length ≤ 1000) (h : rightE q = 0) :
    Calls Try.prog 24 #[q.v s] w (SNewPost q w) := by
  have HC := Lib.hid (right_any q s)
  have hn12 := (ok_of h).n
  obtain ⟨N, hN⟩ : ∃ N : Nat, q.n = (N : Int) := ⟨q.n.toNat, hn12.2.2⟩
  have hN12 : N ≤ 12 := by have := hn12.2.1; rw [hN] at this; simpa using this
  have HFin := Lib.hid (fun (w5 : World) (g cap : Nat) => snew_fin (w := w) (w5 := w5) (q := q) (g := g) (cap := cap) hN h hl)
  obtain ⟨k, n', o, t, l⟩ := q
  simp only at hN
  subst hN
  have hs0 := hs
  obtain ⟨A, c, rfl, -⟩ := hs0
  obtain ⟨w1, hw1⟩ : ∃ w1, w1 = (w.alloc (.cells #[.int .i64 k, .int .i64 (N : Int), .int .i64 o, .int .i64 t, .slice A l.length c] 24)) := ⟨_, rfl⟩
  have hf : Fr (fun _ => False) w w1 := by rw [hw1]; exact ((Fr.refl _ w).alloc _)
  have hb1 : Blk w1 w.heap.size 24 #[.int .i64 k, .int .i64 (N : Int), .int .i64 o, .int .i64 t, .slice A l.length c] := by rw [hw1]; exact (Blk.new _ _ _)
  have HF := Lib.hid (And.intro hf (hs.up hf))
  have HW := Lib.hid hw1
  have HZ := Lib.hid (show w1.heap.size = w.heap.size + 1 by rw [hw1]; simp)
  have HE := Lib.hid h
  have HN := Lib.hid hnil
  obtain ⟨MC, hMC⟩ : ∃ MC, MC = madeCells ndZ (N * 13) := ⟨_, rfl⟩
  obtain ⟨i0, hi0, hz0, hz1, hz2⟩ := info_parts ndinfo
  have hmk : ∀ w : World, (Instr.makeSlice 81 (.int .i64 (N : Int)) (.int .i64 (N : Int))).run Try.prog w = .ok (.slice (some ⟨w.heap.size, 0, none⟩) N N) (w.alloc (.cells MC 80)) := fun w => by
    have hr := run_makeSlice (P := Try.prog) w 81 80 i0 (.agg ndZ) Try.underlying81 hi0 hz0 .i64 .i64 (N : Int) (N : Int) (by omega) (by omega) (by rw [hz1]; simp; omega) (by rw [hz2]; omega) (by omega)
    rw [hz1] at hr
    rw [hMC]
    exact hr
  rw [← hMC] at HFin
  simp only [Qu.v] at hl HC ⊢
  clear hf hs hw1 h hnil hMC hn12 hi0 hz0 hz1 hz2 i0
  have b0 := hb1.cell 0 rfl
  have b1 := hb1.cell 1 rfl
  have b2 := hb1.cell 2 rfl
  have b3 := hb1.cell 3 rfl
  have b4 := hb1.cell 4 rfl
  go_enter Try.func24, Try.ntmps24
  go_upto_region 1 with (fail)
  rw [← HW.out]
  clear HW
  go_wp2_with fail
  refine (HC.out _ HF.out.2 hl).mono ?_
  rintro e w2 ⟨rfl, hf2⟩
  rw [HE.out]
  have hb1' := hb1.fr hf2 (fun h => h)
  have hs2 := HF.out.2.up hf2
  clear b0 b1 b2 b3 b4 hb1
  go_upto_region 4 with (fail)
  have a0 : (w2.alloc (.cells #[] 3)).cell? ⟨w.heap.size, 4, none⟩ = some (.slice A l.length c) := al_cell (hb1'.cell 4 rfl) _
  have hc : A = none → c = 0 := by
    rintro rfl
    by_cases hn : l = []
    · subst hn; exact HN.out c rfl
    · obtain ⟨A', c', he, h2⟩ := hs2
      injection he with e1 _ _
      subst e1
      obtain ⟨_, _, h, _⟩ := h2 hn
      cases h
  have HCn := Lib.hid hc
  clear hc
  go_upto_region 5 with (first
    | (at_builtin
       refine wpList_bi2 rfl .append _ _ _ _ _ rfl rfl rfl _ (ap_newi w2 A c l hs2 HCn.out hl _) ?_
       rintro v' w4 ⟨g, cap, rfl, hg, hgl, ho, hf4⟩
       have hb4 := hb1'.fr hf4 (fun h => h)
       clear a0
       have a4 := hb4.cell 4 rfl
       have a5 := hb4.frozen 4))
  obtain ⟨w5, hw5⟩ : ∃ w5, w5 = w4.setCell ⟨w.heap.size, 4, none⟩ (.slice (some ⟨g, 0, none⟩) l.length cap) := ⟨_, rfl⟩
  have hS : Fr (fun j => j = w.heap.size) w4 w5 := by rw [hw5]; exact Fr.set1 w4 w.heap.size 4 (.slice (some ⟨g, 0, none⟩) l.length cap)
  have hb5 : Blk w5 w.heap.size 24 #[.int .i64 k, .int .i64 (N : Int), .int .i64 o, .int .i64 t, .slice (some ⟨g, 0, none⟩) l.length cap] := by rw [hw5]; simpa using hb4.set_ 4 (.slice (some ⟨g, 0, none⟩) l.length cap)
  rw [← hw5]
  clear hw5 a4 a5 hb4 hb1'
  have a0 := hb5.cell 0 rfl
  have a1 := hb5.cell 1 rfl
  have a2 := hb5.cell 2 rfl
  have a3 := hb5.cell 3 rfl
  have a4 := hb5.cell 4 rfl
  have e0 := al_cell (hb5.cell 0 rfl) (.cells MC 80)
  have e1 := al_cell (hb5.cell 1 rfl) (.cells MC 80)
  have e2 := al_cell (hb5.cell 2 rfl) (.cells MC 80)
  have e3 := al_cell (hb5.cell 3 rfl) (.cells MC 80)
  have e4 := al_cell (hb5.cell 4 rfl) (.cells MC 80)
  have hz := HZ.out
  have hs2' := hf2.size
  have hgw : w.heap.size ≤ g := by omega
  have hf5 : Fr (fun _ => False) w w5 := ((HF.out.1.tr hf2).tr hf4).trans hS (fun b hb h => by rcases h with h | h; exact h; omega)
  have ho5 := own_fr ho hS (fun k hk => by simp [Value.ownBlock] at hk; omega)
  have HFF := Lib.hid (HFin.out w5 g cap hf5 (own_base ho5) hgw)
  clear hb5 hf5 ho5 hS ho hf4 hs2 hf2 HFin
  go_region
  all_goals
    go_wp2_with fail
    go_ret2
    exact HFF.out
end Go.Proofs.Ytkpfgoalohbfeaa
