/- The document's New. -/
import Derived.Test.YtliljjlegofmkaaPRa
import Derived.Deep.RegionHeld3
namespace Go.Proofs.Ytliljjlegofmkaa
open Go.RowKit

set_option maxRecDepth 100000 in
set_option maxHeartbeats 4000000 in
theorem rnew_bad (q : Qu) (s : Value) (n : Nat) (d : Int) (f : Nat) (w : World) (hs : Ints w s q.s) (hl : q.s.length ≤ 1000) (h : ¬ rightE q = 0 ∨ rightB n d = false ∨ f = 0) :
    Calls Try.prog 26 #[q.v s, .agg #[.int .u64 n, .int .i64 d], .int .u64 f] w fun e w' => e = .returned (.tuple #[.pointer none, .int .i64 (if rightE q = 0 then 2 else rightE q)]) ∧ Fr (fun _ => False) w w' := by
  have HC := Lib.hid (rright_any q s)
  obtain ⟨E, hE⟩ : ∃ E, E = rightE q := ⟨_, rfl⟩
  rw [← hE] at HC h ⊢
  obtain ⟨R, hR⟩ : ∃ R, R = if E = 0 then 2 else E := ⟨_, rfl⟩
  rw [← hR]
  have HR := Lib.hid hR
  have HE := Lib.hid hE
  clear hE hR
  obtain ⟨k, N, o, t, l⟩ := q
  have hs0 := hs
  obtain ⟨A, c, rfl, -⟩ := hs0
  obtain ⟨w1, hw1⟩ : ∃ w1, w1 = (w.alloc (.cells #[.int .i64 k, .int .i64 N, .int .i64 o, .int .i64 t, .slice A l.length c] 24)).alloc (.cells #[.int .u64 n, .int .i64 d] 33) := ⟨_, rfl⟩
  have hf : Fr (fun _ => False) w w1 := by rw [hw1]; exact ((Fr.refl _ w).alloc _).alloc _
  have hb2 : Blk w1 (w.heap.size + 1) 33 #[.int .u64 n, .int .i64 d] := by
    have := Blk.new (w.alloc (.cells #[.int .i64 k, .int .i64 N, .int .i64 o, .int .i64 t, .slice A l.length c] 24)) 33 #[.int .u64 n, .int .i64 d]
    rw [hw1]; simpa using this
  have hb1 : Blk w1 w.heap.size 24 #[.int .i64 k, .int .i64 N, .int .i64 o, .int .i64 t, .slice A l.length c] := by rw [hw1]; exact (Blk.new _ _ _).alloc _
  have HF := Lib.hid (And.intro hf (hs.up hf))
  have HW := Lib.hid hw1
  have HH := Lib.hid h
  simp only [Qu.v] at hl HC ⊢
  clear hf hs hw1 h
  have b0 := hb1.cell 0 rfl
  have b1 := hb1.cell 1 rfl
  have b2 := hb1.cell 2 rfl
  have b3 := hb1.cell 3 rfl
  have b4 := hb1.cell 4 rfl
  go_enter Try.func26, Try.ntmps26
  go_upto_region 1 with (fail)
  rw [← HW.out]
  clear HW
  go_wp2_with fail
  refine (HC.out _ HF.out.2 hl).mono ?_
  rintro e w2 ⟨rfl, hf2⟩
  have hb2' := hb2.fr hf2 (fun h => h)
  clear b0 b1 b2 b3 b4 hb1 hb2
  have c0 := hb2'.cell 0 rfl
  have c1 := hb2'.cell 1 rfl
  go_wp2_with fail
  refine (rright9_any n d _).mono ?_
  rintro e w3 ⟨rfl, hf3⟩
  have hF3 := (HF.out.1.tr hf2).tr hf3
  clear c0 c1 hb2' hf2 hf3
  by_cases hE0 : E = 0
  · subst hE0
    rcases (show rightB n d = false ∨ f = 0 from by rcases HH.out with h | h | h; exact absurd rfl h; exact .inl h; exact .inr h) with h | h
    · rw [h]
      go_wp2_with fail
      go_ret2
      exact ⟨by rw [HR.out]; first | rfl | simp, hF3⟩
    · have hf0 : ((f : Int) == 0) = true := by simp [h]
      cases hb : rightB n d with
      | false =>
        go_wp2_with fail
        go_ret2
        exact ⟨by rw [HR.out]; first | rfl | simp, hF3⟩
      | true =>
        go_wp2_with fail
        go_ret2
        exact ⟨by rw [HR.out]; first | rfl | simp, hF3⟩
  · have hE1 : (E != 0) = true := by simp [hE0]
    go_wp2_with fail
    go_ret2
    exact ⟨by rw [HR.out, if_neg hE0]; rfl, hF3⟩

set_option maxRecDepth 100000 in
set_option maxHeartbeats 4000000 in
theorem rnew_ok (q : Qu) (s : Value) (n : Nat) (d : Int) (f : Nat) (w : World) (hs : Ints w s q.s) (hnil : ∀ c, s = .slice none 0 c → c = 0) (hl : q.s.length ≤ 1000) (h : rightE q = 0) (hb : rightB n d = true) (hn : n < 18446744073709551616) (hf1 : 1 ≤ f) (hf64 : f < 18446744073709551616) :
    Calls Try.prog 26 #[q.v s, .agg #[.int .u64 n, .int .i64 d], .int .u64 f] w fun e w' => ∃ r, e = .returned (.tuple #[.pointer (some ⟨r, 0, none⟩), .int .i64 0]) ∧
      RR w' r (rs0 q n d f) (fun k => w.heap.size ≤ k ∧ k < w'.heap.size) ∧ Fr (fun _ => False) w w' := by
  have HC := Lib.hid (rright_any q s)
  have HCp := Lib.hid (fun w hs => rcopyq_any q s w hs hnil hl)
  have HWf := Lib.hid (rs0_wf (ok_of h) hl hb hn hf1 hf64)
  rw [h] at HC
  have HB := Lib.hid hb
  obtain ⟨k, N, o, t, l⟩ := q
  have hs0 := hs
  obtain ⟨A, c, rfl, -⟩ := hs0
  obtain ⟨w1, hw1⟩ : ∃ w1, w1 = (w.alloc (.cells #[.int .i64 k, .int .i64 N, .int .i64 o, .int .i64 t, .slice A l.length c] 24)).alloc (.cells #[.int .u64 n, .int .i64 d] 33) := ⟨_, rfl⟩
  have hf : Fr (fun _ => False) w w1 := by rw [hw1]; exact ((Fr.refl _ w).alloc _).alloc _
  have hb2 : Blk w1 (w.heap.size + 1) 33 #[.int .u64 n, .int .i64 d] := by
    have := Blk.new (w.alloc (.cells #[.int .i64 k, .int .i64 N, .int .i64 o, .int .i64 t, .slice A l.length c] 24)) 33 #[.int .u64 n, .int .i64 d]
    rw [hw1]; simpa using this
  have hb1 : Blk w1 w.heap.size 24 #[.int .i64 k, .int .i64 N, .int .i64 o, .int .i64 t, .slice A l.length c] := by rw [hw1]; exact (Blk.new _ _ _).alloc _
  have HF := Lib.hid (And.intro hf (hs.up hf))
  have HW := Lib.hid hw1
  simp only [Qu.v] at hl HC HCp ⊢
  clear hf hs hw1 h hb hnil
  have hf0 : ((f : Int) == 0) = false := by simp; omega
  have b0 := hb1.cell 0 rfl
  have b1 := hb1.cell 1 rfl
  have b2 := hb1.cell 2 rfl
  have b3 := hb1.cell 3 rfl
  have b4 := hb1.cell 4 rfl
  go_enter Try.func26, Try.ntmps26
  go_upto_region 1 with (fail)
  rw [← HW.out]
  clear HW
  go_wp2_with fail
  refine (HC.out _ HF.out.2 hl).mono ?_
  rintro e w2 ⟨rfl, hf2⟩
  have hb2' := hb2.fr hf2 (fun h => h)
  have hb1' := hb1.fr hf2 (fun h => h)
  have hs2 := HF.out.2.up hf2
  clear b0 b1 b2 b3 b4 hb1 hb2
  have c0 := hb2'.cell 0 rfl
  have c1 := hb2'.cell 1 rfl
  go_wp2_with fail
  refine (rright9_any n d _).mono ?_
  rintro e w3 ⟨rfl, hf3⟩
  rw [HB.out]
  have hb2 := hb2'.fr hf3 (fun h => h)
  have hb1 := hb1'.fr hf3 (fun h => h)
  have hs3 := hs2.up hf3
  have hF3 := (HF.out.1.tr hf2).tr hf3
  clear c0 c1 hb1' hb2' hf2 hf3 hs2
  have b0 := hb1.cell 0 rfl
  have b1 := hb1.cell 1 rfl
  have b2 := hb1.cell 2 rfl
  have b3 := hb1.cell 3 rfl
  have b4 := hb1.cell 4 rfl
  have c0 := hb2.cell 0 rfl
  have c1 := hb2.cell 1 rfl
  have hd := (Fr.refl (fun _ => False) w3).drew
  go_upto_region 7 with (fail)
  first
    | go_region_held3 (fun wx => wx.cell? ⟨w.heap.size, 0, none⟩ = some (.int .i64 k) ∧ wx.cell? ⟨w.heap.size, 1, none⟩ = some (.int .i64 N) ∧ wx.cell? ⟨w.heap.size, 2, none⟩ = some (.int .i64 o) ∧ wx.cell? ⟨w.heap.size, 3, none⟩ = some (.int .i64 t) ∧ wx.cell? ⟨w.heap.size, 4, none⟩ = some (.slice A l.length c) ∧ wx.cell? ⟨w.heap.size + 1, 0, none⟩ = some (.int .u64 n) ∧ wx.cell? ⟨w.heap.size + 1, 1, none⟩ = some (.int .i64 d)) (first | exact ⟨b0, b1, b2, b3, b4, c0, c1⟩ | exact hS4 | exact ⟨al_cell hS4.1 _, al_cell hS4.2.1 _, al_cell hS4.2.2.1 _, al_cell hS4.2.2.2.1 _, al_cell hS4.2.2.2.2.1 _, al_cell hS4.2.2.2.2.2.1 _, al_cell hS4.2.2.2.2.2.2 _⟩)
      ((go_at_call 43
        refine (HCp.out _ (hs3.up hd)).mono ?_
        rintro e w4 ⟨va, vc, rfl, ho4, hf4⟩
        have hd4 := hd.tr hf4
        have hS4 := And.intro (hd4.cell b0 (fun h => h)) (And.intro (hd4.cell b1 (fun h => h)) (And.intro (hd4.cell b2 (fun h => h)) (And.intro (hd4.cell b3 (fun h => h)) (And.intro (hd4.cell b4 (fun h => h)) (And.intro (hd4.cell c0 (fun h => h)) (hd4.cell c1 (fun h => h))))))))) 
    | fail
  all_goals
    go_wp2_with fail
    go_ret2
    have hz3 := hF3.size
    have hz4 := hd4.size
    have hlt : w.heap.size + 1 < w3.heap.size := hb2.lt
    have hB := Blk.new w4 99 #[.int .i64 k, .int .i64 N, .int .i64 o, .int .i64 t, .slice va l.length vc, .int .u64 n, .int .i64 d, .int .u64 f, .slice none 0 0, .slice none 0 0, .slice none 0 0]
    have hA := (Fr.refl (fun _ => False) w4).alloc (.cells #[.int .i64 k, .int .i64 N, .int .i64 o, .int .i64 t, .slice va l.length vc, .int .u64 n, .int .i64 d, .int .u64 f, .slice none 0 0, .slice none 0 0, .slice none 0 0] 99)
    refine ⟨w4.heap.size, rfl, ⟨.slice va l.length vc, .slice none 0 0, .slice none 0 0, .slice none 0 0, [], [], ?_⟩, (hF3.tr hd4).tr hA⟩
    exact ⟨hB, own_fr (own_base ho4) hA (fun _ _ h => h), World.ownsRow_nil _ _ _ _, World.ownsRow_nil _ _ _ _, World.ownsRow_nil _ _ _ _, rfl, rfl, fun i t v h => by simp [rs0] at h, fun i v s h => by simp [rs0] at h, ⟨by omega, by simp⟩,
      fun k hk => ⟨by have := (ho4.lt k hk).1; have := hd.size; omega, by have := (ho4.lt k hk).2; simp; omega⟩, fun k hk => by simp [Value.ownBlock] at hk, fun k hk => by simp [Value.ownBlock] at hk, fun k hk => by simp [Value.ownBlock] at hk, HWf.out⟩
end Go.Proofs.Ytliljjlegofmkaa
