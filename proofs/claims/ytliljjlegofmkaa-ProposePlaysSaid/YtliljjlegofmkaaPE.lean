/- New. -/
import Derived.Test.YtliljjlegofmkaaPD
import Derived.Carry
namespace Go.Proofs.Ytliljjlegofmkaa
open Go.RowKit

def newP (q : Qu) (n : Nat) (d : Int) (f : Nat) : Ps := ⟨q, n, d, f, 0, fun _ => none, fun _ => none⟩

set_option maxRecDepth 100000 in
set_option maxHeartbeats 4000000 in
theorem new_badq (q : Qu) (s : Value) (n : Nat) (d : Int) (f : Nat) (w : World) (hs : Ints w s q.s) (hl : q.s.length ≤ 1000) (h : ¬ rightE q = 0) :
    Calls Try.prog 12 #[q.v s, .agg #[.int .u64 n, .int .i64 d], .int .u64 f] w fun e w' => e = .returned (.tuple #[.pointer none, .int .i64 (rightE q)]) ∧ Fr (fun _ => False) w w' := by
  have HC := Lib.hid (right_any q s)
  obtain ⟨k, N, o, t, l⟩ := q
  have hs0 := hs
  obtain ⟨A, c, rfl, -⟩ := hs0
  have hf := ((Fr.refl (fun _ => False) w).alloc (.cells #[.int .i64 k, .int .i64 N, .int .i64 o, .int .i64 t, .slice A l.length c] 24)).alloc (.cells #[.int .u64 n, .int .i64 d] 33)
  have HF := Lib.hid (And.intro hf (hs.up hf))
  simp only [Qu.v] at hl HC ⊢
  obtain ⟨E, hE⟩ : ∃ E, E = rightE ⟨k, N, o, t, l⟩ := ⟨_, rfl⟩
  rw [← hE] at h HC ⊢
  have h' : (E == 0) = false := by simp [h]
  have h'' : (E != 0) = true := by simp [h]
  clear hf hs h hE
  go_enter Try.func12, Try.ntmps12
  go_wp2_with fail
  refine (HC.out _ HF.out.2 hl).mono ?_
  rintro e w2 ⟨rfl, hf2⟩
  go_wp2_with fail
  go_ret2
  exact ⟨rfl, HF.out.1.tr hf2⟩

set_option maxRecDepth 100000 in
set_option maxHeartbeats 4000000 in
theorem new_bad (q : Qu) (s : Value) (n : Nat) (d : Int) (f : Nat) (w : World) (hs : Ints w s q.s) (hl : q.s.length ≤ 1000) (h : rightE q = 0) (hb : rightB n d = false ∨ f = 0) :
    Calls Try.prog 12 #[q.v s, .agg #[.int .u64 n, .int .i64 d], .int .u64 f] w fun e w' => e = .returned (.tuple #[.pointer none, .int .i64 2]) ∧ Fr (fun _ => False) w w' := by
  have HC := Lib.hid (right_any q s)
  obtain ⟨k, N, o, t, l⟩ := q
  have hs0 := hs
  obtain ⟨A, c, rfl, -⟩ := hs0
  obtain ⟨w1, hw1⟩ : ∃ w1, w1 = (w.alloc (.cells #[.int .i64 k, .int .i64 N, .int .i64 o, .int .i64 t, .slice A l.length c] 24)).alloc (.cells #[.int .u64 n, .int .i64 d] 33) := ⟨_, rfl⟩
  have hf : Fr (fun _ => False) w w1 := by rw [hw1]; exact ((Fr.refl _ w).alloc _).alloc _
  have hb2 : Blk w1 (w.heap.size + 1) 33 #[.int .u64 n, .int .i64 d] := by
    have := Blk.new (w.alloc (.cells #[.int .i64 k, .int .i64 N, .int .i64 o, .int .i64 t, .slice A l.length c] 24)) 33 #[.int .u64 n, .int .i64 d]
    rw [hw1]; simpa using this
  have hb1 : Blk w1 w.heap.size 24 #[.int .i64 k, .int .i64 N, .int .i64 o, .int .i64 t, .slice A l.length c] := by rw [hw1]; exact (Blk.new _ _ _).alloc _
  have HF := Lib.hid (And.intro hf (hs.up hf))
  have HW := Lib.hid hw1
  have HE := Lib.hid h
  have HB := Lib.hid hb
  simp only [Qu.v] at hl HC ⊢
  clear hf hs hw1 h hb
  have b0 := hb1.cell 0 rfl
  have b1 := hb1.cell 1 rfl
  have b2 := hb1.cell 2 rfl
  have b3 := hb1.cell 3 rfl
  have b4 := hb1.cell 4 rfl
  go_enter Try.func12, Try.ntmps12
  go_upto_region 1 with (fail)
  rw [← HW.out]
  clear HW
  go_wp2_with fail
  refine (HC.out _ HF.out.2 hl).mono ?_
  rintro e w2 ⟨rfl, hf2⟩
  rw [HE.out]
  have hb2' := hb2.fr hf2 (fun h => h)
  clear b0 b1 b2 b3 b4
  have c0 := hb2'.cell 0 rfl
  have c1 := hb2'.cell 1 rfl
  go_wp2_with fail
  refine (aright_any n d _).mono ?_
  rintro e w3 ⟨rfl, hf3⟩
  cases hr : rightB n d with
  | false =>
    clear HB hr
    go_wp2_with fail
    go_ret2
    exact ⟨rfl, (HF.out.1.tr hf2).tr hf3⟩
  | true =>
    obtain rfl : f = 0 := by
      rcases HB.out with h | h
      · rw [hr] at h; cases h
      · exact h
    clear HB hr
    go_wp2_with fail
    go_ret2
    exact ⟨rfl, (HF.out.1.tr hf2).tr hf3⟩

set_option maxRecDepth 100000 in
set_option maxHeartbeats 4000000 in
theorem new_ok (q : Qu) (s : Value) (n : Nat) (d : Int) (f : Nat) (w : World) (hs : Ints w s q.s) (hnil : ∀ c, s = .slice none 0 c → c = 0) (hl : q.s.length ≤ 1000) (h : rightE q = 0) (hb : rightB n d = true) (hn : n < 18446744073709551616) (hf1 : 1 ≤ f) (hf64 : f < 18446744073709551616) :
    Calls Try.prog 12 #[q.v s, .agg #[.int .u64 n, .int .i64 d], .int .u64 f] w fun e w' => ∃ r, e = .returned (.tuple #[.pointer (some ⟨r, 0, none⟩), .int .i64 0]) ∧
      PR w' r (newP q n d f) 0 (fun k => w.heap.size ≤ k ∧ k < w'.heap.size) ∧ Fr (fun _ => False) w w' := by
  have HC := Lib.hid (right_any q s)
  obtain ⟨k, N, o, t, l⟩ := q
  have hs0 := hs
  obtain ⟨A, c, rfl, -⟩ := hs0
  obtain ⟨w1, hw1⟩ : ∃ w1, w1 = (w.alloc (.cells #[.int .i64 k, .int .i64 N, .int .i64 o, .int .i64 t, .slice A l.length c] 24)).alloc (.cells #[.int .u64 n, .int .i64 d] 33) := ⟨_, rfl⟩
  have hf : Fr (fun _ => False) w w1 := by rw [hw1]; exact ((Fr.refl _ w).alloc _).alloc _
  have hb2 : Blk w1 (w.heap.size + 1) 33 #[.int .u64 n, .int .i64 d] := by
    have := Blk.new (w.alloc (.cells #[.int .i64 k, .int .i64 N, .int .i64 o, .int .i64 t, .slice A l.length c] 24)) 33 #[.int .u64 n, .int .i64 d]
    rw [hw1]; simpa using this
  have hb1 : Blk w1 w.heap.size 24 #[.int .i64 k, .int .i64 N, .int .i64 o, .int .i64 t, .slice A l.length c] := by rw [hw1]; exact (Blk.new _ _ _).alloc _
  have HF := Lib.hid (And.intro hf (hs.up hf))
  have HW := Lib.hid hw1
  have HZ := Lib.hid (show w1.heap.size = w.heap.size + 2 by rw [hw1]; simp)
  have HE := Lib.hid h
  have HB := Lib.hid hb
  have HN := Lib.hid hnil
  simp only [Qu.v] at hl HC ⊢
  clear hf hs hw1 h hb hnil
  have hf0 : ((f : Int) == 0) = false := by simp; omega
  have b0 := hb1.cell 0 rfl
  have b1 := hb1.cell 1 rfl
  have b2 := hb1.cell 2 rfl
  have b3 := hb1.cell 3 rfl
  have b4 := hb1.cell 4 rfl
  have hmm := @run_makeMap Try.prog
  go_enter Try.func12, Try.ntmps12
  go_upto_region 1 with (fail)
  rw [← HW.out]
  clear HW
  go_wp2_with fail
  refine (HC.out _ HF.out.2 hl).mono ?_
  rintro e w2 ⟨rfl, hf2⟩
  rw [HE.out]
  have hb2' := hb2.fr hf2 (fun h => h)
  have hb1' := hb1.fr hf2 (fun h => h)
  have hs2 := HF.out.2.up hf2
  clear b0 b1 b2 b3 b4 hb1 hb2
  have c0 := hb2'.cell 0 rfl
  have c1 := hb2'.cell 1 rfl
  go_wp2_with fail
  refine (aright_any n d _).mono ?_
  rintro e w3 ⟨rfl, hf3⟩
  rw [HB.out]
  have hb2 := hb2'.fr hf3 (fun h => h)
  have hb1 := hb1'.fr hf3 (fun h => h)
  have hs3 := hs2.up hf3
  have hF3 := hf2.tr hf3
  clear c0 c1 hb1' hb2' hf2 hf3 hs2
  go_upto_region 6 with (fail)
  have a0 : (w3.alloc (.cells #[] 3)).cell? ⟨w.heap.size, 4, none⟩ = some (.slice A l.length c) := al_cell (hb1.cell 4 rfl) _
  have hc : A = none → c = 0 := by
    rintro rfl
    by_cases hn : l = []
    · subst hn; exact HN.out c rfl
    · obtain ⟨A', c', he, h2⟩ := hs3
      injection he with e1 _ _
      subst e1
      obtain ⟨_, _, h, _⟩ := h2 hn
      cases h
  have HCn := Lib.hid hc
  clear hc
  go_wp2_with (first
    | (at_builtin
       refine wpList_bi2 rfl .append _ _ _ _ _ rfl rfl rfl _ (ap_newi w3 A c l hs3 HCn.out hl _) ?_
       rintro v' w4 ⟨g, cap, rfl, hg, hgl, ho, hf4⟩
       have hb1' := hb1.fr hf4 (fun h => h)
       have hb2' := hb2.fr hf4 (fun h => h)
       clear a0
       have a0 := hb1'.cell 0 rfl
       have a1 := hb1'.cell 1 rfl
       have a2 := hb1'.cell 2 rfl
       have a3 := hb1'.cell 3 rfl
       have a4 := hb1'.cell 4 rfl
       have a5 := hb1'.frozen 4
       have d0 := hb2'.cell 0 rfl
       have d1 := hb2'.cell 1 rfl))
  go_ret2
  have hS := Fr.set1 w4 w.heap.size 4 (.slice (some ⟨g, 0, none⟩) l.length cap)
  obtain ⟨w5, hw5⟩ : ∃ w5, w5 = w4.setCell ⟨w.heap.size, 4, none⟩ (.slice (some ⟨g, 0, none⟩) l.length cap) := ⟨_, rfl⟩
  have hz5 : w5.heap.size = w4.heap.size := by rw [hw5]; simp
  rw [← hw5] at hS ⊢
  have hz := HZ.out
  have hsz3 := hF3.size
  have hlt3 : w.heap.size < w3.heap.size := by omega
  have hsz4 := hf4.size
  have hf5 : Fr (fun _ => False) w w5 := ((HF.out.1.tr hF3).tr hf4).trans hS (fun b hb h => by rcases h with h | h; exact h; omega)
  have ho5 := own_fr ho hS (fun k hk => by simp [Value.ownBlock] at hk; omega)
  have hA1 := Fr.alloc (Fr.refl (fun _ => False) w5) (.map #[] 0)
  have hA2 := hA1.alloc (.map #[] 0)
  have hm1 := Mp.made w5
  have hm2 := Mp.made (w5.alloc (.map #[] 0))
  have hB := Blk.new ((w5.alloc (.map #[] 0)).alloc (.map #[] 0)) 80 (prC (newP ⟨k, N, o, t, l⟩ n d f) (.slice (some ⟨g, 0, none⟩) l.length cap) w4.heap.size (w4.heap.size + 1))
  have hzA : (w5.alloc (.map #[] 0)).heap.size = w4.heap.size + 1 := by simp [hz5]
  have hzB : ((w5.alloc (.map #[] 0)).alloc (.map #[] 0)).heap.size = w4.heap.size + 1 + 1 := by simp [hz5]
  rw [hz5] at hm1
  rw [hzA] at hm2
  rw [hzB] at hB
  refine ⟨w4.heap.size + 1 + 1, rfl, ⟨.slice (some ⟨g, 0, none⟩) l.length cap, w4.heap.size, w4.heap.size + 1, fun _ => none, fun _ => none, ?_⟩, ?_⟩
  · refine ⟨hB, ?_, ?_, ?_, ?_, ?_, by omega, ?_, ?_, fun k => .inl ⟨rfl, rfl⟩, fun k => .inl ⟨rfl, rfl⟩, (fun k k2 g h => by cases h), ?_⟩
    · exact own_fr (hf := (hA2.alloc _)) ho5 (fun _ _ h => h)
    · intro k hk
      simp only [Value.ownBlock] at hk
      injection hk with hk
      simp
      omega
    · simp; omega
    · simp; omega
    · simp; omega
    · exact hm1.fr ((Fr.refl (fun _ => False) _).alloc _ |>.alloc _) (fun h => h)
    · exact hm2.fr ((Fr.refl (fun _ => False) _).alloc _) (fun h => h)
    · exact ⟨ok_of HE.out, hl, HB.out, hn, hf1, hf64, Nat.zero_lt_succ _, (fun k v nd h => by cases h), (fun k v X h => by cases h)⟩
  · exact hf5.tr (hA2.alloc _)
end Go.Proofs.Ytliljjlegofmkaa
