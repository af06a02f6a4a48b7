/- New of the document's room. -/
import Derived.Test.YtkpfgoalohbfeaaSRJ
import Derived.Test.YtkpfgoalohbfeaaSP
namespace Go.Proofs.Ytkpfgoalohbfeaa
open Go.RowKit

def nvR0 : Rv := ⟨.slice none 0 0, .pointer none, .slice none 0 0, .slice none 0 0⟩
def ndZR : Array Value := (ndD nd0 nvR0).toArray
theorem made_getR (N a j : Nat) (z : Value) (ha : a < N) (h : (ndD nd0 nvR0)[j]? = some z) : (madeCells ndZR (N * 8))[a * 8 + j]? = some z := by
  have hj : j < 8 := (List.getElem?_eq_some_iff.1 h).1
  have hm : (a * 8 + j) % 8 = j := by omega
  have hz : ndZR.size = 8 := rfl
  have hlt : a * 8 + j < N * 8 := by omega
  have h2 : ndZR[j]? = some z := by unfold ndZR; simpa using h
  unfold madeCells
  rw [Array.getElem?_map, Array.getElem?_range, if_pos hlt]
  simp only [Option.map_some, hz, hm]
  rw [getElem!_def, h2]
theorem ndinfoR : (Try.prog.info? 104).map (fun i => (i.zero, i.size, i.bytes)) = some (some (.agg ndZR), 8, 112) := by kernel_rfl

set_option maxRecDepth 100000 in
set_option maxHeartbeats 4000000 in
theorem rfnew_bad (q : Qu) (s : Value) (w : World) (hs : Ints w s q.s) (hl : q.s.length ≤ 1000) (h : ¬ rightE q = 0) :
    Calls Try.prog 25 #[q.v s] w fun e w' => e = .returned (.tuple #[.pointer none, .int .i64 (rightE q)]) ∧ Fr (fun _ => False) w w' := by
  have HC := Lib.hid (rright_any q s)
  obtain ⟨k, N, o, t, l⟩ := q
  have hs0 := hs
  obtain ⟨A, c, rfl, -⟩ := hs0
  have hf := ((Fr.refl (fun _ => False) w).alloc (.cells #[.int .i64 k, .int .i64 N, .int .i64 o, .int .i64 t, .slice A l.length c] 24))
  have HF := Lib.hid (And.intro hf (hs.up hf))
  simp only [Qu.v] at hl HC ⊢
  obtain ⟨E, hE⟩ : ∃ E, E = rightE ⟨k, N, o, t, l⟩ := ⟨_, rfl⟩
  rw [← hE] at h HC ⊢
  have h' : (E == 0) = false := by simp [h]
  have h'' : (E != 0) = true := by simp [h]
  clear hf hs h hE
  go_enter Try.func25, Try.ntmps25
  go_wp2_with fail
  refine (HC.out _ HF.out.2 hl).mono ?_
  rintro e w2 ⟨rfl, hf2⟩
  go_wp2_with fail
  go_ret2
  exact ⟨rfl, HF.out.1.tr hf2⟩

def RfNewPost (q : Qu) (w : World) (e : Ending) (w' : World) : Prop := ∃ r nb G, e = .returned (.tuple #[.pointer (some ⟨r, 0, none⟩), .int .i64 0]) ∧
  Rf w' r nb (room0 q) 0 G (fun k => w.heap.size ≤ k ∧ k < w'.heap.size) ∧ Fr (fun _ => False) w w'
theorem rfnew_fin {w w' : World} {q : Qu} {N r nb lo : Nat} {s : Value} (hN : q.n = (N : Int)) (he : rightE q = 0) (hl : q.s.length ≤ 1000) (hf : Fr (fun _ => False) w w')
    (ho : w'.ownsRow lo 3 1 s q.s.length (i64s q.s)) (hlo : w.heap.size ≤ lo) (h1 : Blk w' nb 104 (madeCells ndZR (N * 8))) (h2 : Blk w' r 97 #[.int .i64 q.k, .int .i64 q.n, .int .i64 q.o, .int .i64 q.t, s, .slice (some ⟨nb, 0, none⟩) N N, .slice none 0 0]) (hr : w.heap.size ≤ r) (hb : w.heap.size ≤ nb) :
    RfNewPost q w (.returned (.tuple #[.pointer (some ⟨r, 0, none⟩), .int .i64 0])) w' := by
  have hNN : (room0 q).N = N := by show q.n.toNat = N; rw [hN]; rfl
  have hl1 := h1.lt
  have hl2 := h2.lt
  have hsn : ∀ k, s.ownBlock = some k → k ≠ nb := fun k hk => own_blk_ne ho h1 (by decide) k hk
  have hsr : ∀ k, s.ownBlock = some k → k ≠ r := fun k hk => own_blk_ne ho h2 (by decide) k hk
  refine ⟨r, nb, fun k => k = r ∨ k = nb, rfl, ⟨s, .slice none 0 0, madeCells ndZR (N * 8), fun _ => nvR0, [], fun _ _ => False, ?_⟩, hf⟩
  refine ⟨?_, own_base ho, fun k hk => ?_, h1, ?_, fun a ha j z hz => ?_, World.ownsRow_nil _ _ _ _, rfl, fun i m v hi => ?_, fun a ha => ⟨VtL.nil _ _, ⟨byt_nil _, fun k hk => by simp [nvR0, Value.ownBlock] at hk⟩, ⟨byt_nil _, fun k hk => by simp [nvR0, Value.ownBlock] at hk⟩⟩, fun a ha _ => rfl, fun a ha => .inl ⟨rfl, rfl⟩, fun k hk => ?_, .inl rfl, .inr rfl, fun k hk => (by cases hk), fun a k _ h => h.elim, fun a ha => ⟨id, id, fun _ _ h => h⟩, fun a b k _ _ _ h => h.elim, fun k hk => hk.2, room0_wf he hl⟩
  · show Blk w' r _ (rmC q _ _ (room0 q).N _)
    rw [hNN]; exact h2
  · have h3 := ho.lt k hk
    exact ⟨⟨by omega, h3.2⟩, fun h => h.elim (hsr k hk) (hsn k hk)⟩
  · rw [size_madeCells, hNN]
  · rw [hNN] at ha
    exact made_getR N a j z ha hz
  · simp [room0] at hi
  · rcases hk with rfl | rfl
    · exact ⟨hr, hl2⟩
    · exact ⟨hb, hl1⟩
set_option maxRecDepth 100000 in
set_option maxHeartbeats 8000000 in
theorem rfnew_ok (q : Qu) (s : Value) (w : World) (hs : Ints w s q.s) (hnil : ∀ c, s = .slice none 0 c → c = 0) (hl : q.s.length ≤ 1000) (h : rightE q = 0) :
    Calls Try.prog 25 #[q.v s] w (RfNewPost q w) := by
  have HC := Lib.hid (rright_any q s)
  have HCp := Lib.hid (fun w hs => rcopyq_any q s w hs hnil hl)
  have hn12 := (ok_of h).n
  obtain ⟨N, hN⟩ : ∃ N : Nat, q.n = (N : Int) := ⟨q.n.toNat, hn12.2.2⟩
  have hN12 : N ≤ 12 := by have := hn12.2.1; rw [hN] at this; simpa using this
  have HFin := Lib.hid (fun (w5 : World) (r nb lo : Nat) (s' : Value) => rfnew_fin (w := w) (w' := w5) (q := q) (s := s') (r := r) (nb := nb) (lo := lo) hN h hl)
  rw [h] at HC
  obtain ⟨k, n', o, t, l⟩ := q
  simp only at hN
  subst hN
  have hs0 := hs
  obtain ⟨A, c, rfl, -⟩ := hs0
  obtain ⟨w1, hw1⟩ : ∃ w1, w1 = (w.alloc (.cells #[.int .i64 k, .int .i64 (N : Int), .int .i64 o, .int .i64 t, .slice A l.length c] 24)) := ⟨_, rfl⟩
  have hf : Fr (fun _ => False) w w1 := by rw [hw1]; exact ((Fr.refl _ w).alloc _)
  have hb1 : Blk w1 w.heap.size 24 #[.int .i64 k, .int .i64 (N : Int), .int .i64 o, .int .i64 t, .slice A l.length c] := by rw [hw1]; exact (Blk.new _ _ _)
  have HF := Lib.hid (And.intro hf (hs.up hf))
  have HW := Lib.hid hw1
  obtain ⟨MC, hMC⟩ : ∃ MC, MC = madeCells ndZR (N * 8) := ⟨_, rfl⟩
  obtain ⟨i0, hi0, hz0, hz1, hz2⟩ := info_parts ndinfoR
  have hmk : ∀ w : World, (Instr.makeSlice 95 (.int .i64 (N : Int)) (.int .i64 (N : Int))).run Try.prog w = .ok (.slice (some ⟨w.heap.size, 0, none⟩) N N) (w.alloc (.cells MC 104)) := fun w => by
    have hr := run_makeSlice (P := Try.prog) w 95 104 i0 (.agg ndZR) Try.underlying95 hi0 hz0 .i64 .i64 (N : Int) (N : Int) (by omega) (by omega) (by rw [hz1]; simp; omega) (by rw [hz2]; omega) (by omega)
    rw [hz1] at hr
    rw [hMC]
    exact hr
  rw [← hMC] at HFin
  simp only [Qu.v] at hl HC HCp ⊢
  clear hf hs hw1 h hnil hMC hn12 hi0 hz0 hz1 hz2 i0
  have b0 := hb1.cell 0 rfl
  have b1 := hb1.cell 1 rfl
  have b2 := hb1.cell 2 rfl
  have b3 := hb1.cell 3 rfl
  have b4 := hb1.cell 4 rfl
  go_enter Try.func25, Try.ntmps25
  go_upto_region 1 with (fail)
  rw [← HW.out]
  clear HW
  go_wp2_with fail
  refine (HC.out _ HF.out.2 hl).mono ?_
  rintro e w2 ⟨rfl, hf2⟩
  have hb2 := hb1.fr hf2 (fun h => h)
  have hs2 := HF.out.2.up hf2
  have hF2 := HF.out.1.tr hf2
  clear b0 b1 b2 b3 b4 hb1 hf2
  have b0 := hb2.cell 0 rfl
  have b1 := hb2.cell 1 rfl
  have b2 := hb2.cell 2 rfl
  have b3 := hb2.cell 3 rfl
  have b4 := hb2.cell 4 rfl
  have hd := (Fr.refl (fun _ => False) w2).drew
  go_upto_region 4 with (fail)
  first
    | go_region_held3 (fun wx => wx.cell? ⟨w.heap.size, 0, none⟩ = some (.int .i64 k) ∧ wx.cell? ⟨w.heap.size, 1, none⟩ = some (.int .i64 (N : Int)) ∧ wx.cell? ⟨w.heap.size, 2, none⟩ = some (.int .i64 o) ∧ wx.cell? ⟨w.heap.size, 3, none⟩ = some (.int .i64 t) ∧ wx.cell? ⟨w.heap.size, 4, none⟩ = some (.slice A l.length c)) (first | exact ⟨b0, b1, b2, b3, b4⟩ | exact hS4 | exact ⟨al_cell b0 _, al_cell b1 _, al_cell b2 _, al_cell b3 _, al_cell b4 _⟩ | exact ⟨al_cell hS4.1 _, al_cell hS4.2.1 _, al_cell hS4.2.2.1 _, al_cell hS4.2.2.2.1 _, al_cell hS4.2.2.2.2 _⟩ | exact ⟨al_cell (al_cell hS4.1 _) _, al_cell (al_cell hS4.2.1 _) _, al_cell (al_cell hS4.2.2.1 _) _, al_cell (al_cell hS4.2.2.2.1 _) _, al_cell (al_cell hS4.2.2.2.2 _) _⟩)
      (first
        | (go_at_call 45
           refine (HCp.out _ (hs2.up hd)).mono ?_
           rintro e w4 ⟨va, vc, rfl, ho4, hf4⟩
           have hd4 := hd.tr hf4
           have hS4 := And.intro (hd4.cell b0 (fun h => h)) (And.intro (hd4.cell b1 (fun h => h)) (And.intro (hd4.cell b2 (fun h => h)) (And.intro (hd4.cell b3 (fun h => h)) (hd4.cell b4 (fun h => h))))))
        | (go_at_call 45
           refine (HCp.out _ (hs2.up (hd.alloc _))).mono ?_
           rintro e w4 ⟨va, vc, rfl, ho4, hf4⟩
           have hnb4 := (Blk.new w2.drew 104 MC).fr hf4 (fun h => h)
           have hd4 := (hd.alloc _).tr hf4
           have hS4 := And.intro (hd4.cell b0 (fun h => h)) (And.intro (hd4.cell b1 (fun h => h)) (And.intro (hd4.cell b2 (fun h => h)) (And.intro (hd4.cell b3 (fun h => h)) (hd4.cell b4 (fun h => h)))))))
    | fail
  all_goals
    go_wp2_with fail
    go_ret2
    have hz2 := hF2.size
    have hz4 := hd4.size
    have hz3 : w2.drew.heap.size = w2.heap.size := rfl
    first
      | (have hA2 := ((Fr.refl (fun _ => False) w4).alloc (.cells MC 104)).alloc (.cells #[.int .i64 k, .int .i64 (N : Int), .int .i64 o, .int .i64 t, .slice va l.length vc, .slice (some ⟨w4.heap.size, 0, none⟩) N N, .slice none 0 0] 97)
         have hBr := Blk.new (w4.alloc (.cells MC 104)) 97 #[.int .i64 k, .int .i64 (N : Int), .int .i64 o, .int .i64 t, .slice va l.length vc, .slice (some ⟨w4.heap.size, 0, none⟩) N N, .slice none 0 0]
         rw [World.size_alloc] at hBr
         exact HFin.out ((w4.alloc (.cells MC 104)).alloc (.cells #[.int .i64 k, .int .i64 (N : Int), .int .i64 o, .int .i64 t, .slice va l.length vc, .slice (some ⟨w4.heap.size, 0, none⟩) N N, .slice none 0 0] 97)) (w4.heap.size + 1) w4.heap.size w2.drew.heap.size (.slice va l.length vc) ((hF2.tr hd4).tr hA2) (own_fr ho4 hA2 (fun _ _ h => h)) (by omega) ((Blk.new w4 _ MC).alloc _) hBr (by omega) (by omega))
      | (have hB2 := (Fr.refl (fun _ => False) w4).alloc (.cells #[.int .i64 k, .int .i64 (N : Int), .int .i64 o, .int .i64 t, .slice va l.length vc, .slice (some ⟨w2.drew.heap.size, 0, none⟩) N N, .slice none 0 0] 97)
         exact HFin.out (w4.alloc (.cells #[.int .i64 k, .int .i64 (N : Int), .int .i64 o, .int .i64 t, .slice va l.length vc, .slice (some ⟨w2.drew.heap.size, 0, none⟩) N N, .slice none 0 0] 97)) w4.heap.size w2.drew.heap.size (w2.drew.alloc (.cells MC 104)).heap.size (.slice va l.length vc) ((hF2.tr hd4).tr hB2) (own_fr ho4 hB2 (fun _ _ h => h)) (by simp; omega) (hnb4.alloc _) (Blk.new _ _ _) (by omega) (by omega))
end Go.Proofs.Ytkpfgoalohbfeaa
