/- room. -/
import Derived.Test.YtkpfgoalohbfeaaSS
namespace Go.Proofs.Ytkpfgoalohbfeaa
open Go.RowKit

def RoomPost (w : World) (e : Ending) (w' : World) : Prop :=
  ∃ r nb q G F, e = .returned (.tuple #[.pointer (some ⟨r, 0, none⟩), .int .i64 ((room0 q).N : Int)]) ∧ rightE q = 0 ∧ q.s.length ≤ 1000 ∧ Lr w w' r nb (room0 q) 0 G F
theorem roomPost {w w1 w2 w3 : World} {q : Qu} {r nb : Nat} {G : Nat → Prop} {n : Int} (hq : rightE q = 0) (hl : q.s.length ≤ 1000) (hf1 : Fr (fun _ => False) w w1) (h : Rm w2 r nb (room0 q) 0 G (fun k => w1.heap.size ≤ k ∧ k < w2.heap.size)) (hf2 : Fr (fun _ => False) w1 w2) (hf3 : Fr (fun _ => False) w2 w3) (hn : n = q.n) :
    RoomPost w (.returned (.tuple #[.pointer (some ⟨r, 0, none⟩), .int .i64 n])) w3 := by
  have hn2 := (ok_of hq).n.2.2
  refine ⟨r, nb, q, G, _, ?_, hq, hl, h.none_ hf3, fun k hk => by have := hf1.size; omega, (hf1.tr hf2).tr hf3⟩
  have : ((room0 q).N : Int) = n := by rw [hn]; show ((q.n.toNat : Nat) : Int) = q.n; omega
  rw [this]

set_option maxRecDepth 100000 in
set_option maxHeartbeats 8000000 in
theorem room_any (q : Qu) (s : Value) (w : World) (hs : Ints w s q.s) (hnil : ∀ c, s = .slice none 0 c → c = 0) (hm : q.s.length ≤ maxLen) :
    Calls Try.prog 10 #[q.v s] w (RoomPost w) := by
  have hs0 := hs
  obtain ⟨A, c, rfl, -⟩ := hs0
  unfold maxLen at hm
  obtain ⟨w1, hw1⟩ : ∃ w1, w1 = (w.alloc (.cells #[.int .i64 q.k, .int .i64 q.n, .int .i64 q.o, .int .i64 q.t, .slice A q.s.length c] 24)) := ⟨_, rfl⟩
  have hf : Fr (fun _ => False) w w1 := by rw [hw1]; exact ((Fr.refl _ w).alloc _)
  have hb1 : Blk w1 w.heap.size 24 #[.int .i64 q.k, .int .i64 q.n, .int .i64 q.o, .int .i64 q.t, .slice A q.s.length c] := by rw [hw1]; exact (Blk.new _ _ _)
  obtain ⟨bq, hbq⟩ : ∃ b, b = w.heap.size := ⟨_, rfl⟩
  rw [← hbq] at hb1
  have hs1 := hs.up hf
  have HW := Lib.hid (And.intro hw1 hbq)
  have HBQ := Lib.hid (And.intro hbq hf)
  simp only [Qu.v]
  go_enter Try.func10, Try.ntmps10
  clear hw1 hbq hf hs
  go_upto_region 1 with (fail)
  rw [← HW.out.1, ← HW.out.2]
  clear HW
  have b0 := hb1.cell 0 rfl
  have b1 := hb1.cell 1 rfl
  have b2 := hb1.cell 2 rfl
  have b3 := hb1.cell 3 rfl
  have b4 := hb1.cell 4 rfl
  have bf := hb1.frozen
  by_cases hl : q.s.length ≤ 40
  · have hl' : ¬ (40 : Int) < (q.s.length : Int) := by omega
    by_cases hr : rightE q = 0
    · have hnew := snew_ok q (.slice A q.s.length c) w1 hs1 hnil (by omega) hr
      simp only [Qu.v] at hnew
      have HN := Lib.hid hnew
      clear hnew bf
      go_wp2_with fail
      refine HN.out.mono ?_
      rintro e w2 ⟨r, nb, G, rfl, hR2, hf2⟩
      have hb2 := hb1.fr hf2 (fun h => h)
      have H2 := Lib.hid (And.intro hR2 hf2)
      clear b0 b1 b2 b3 b4 hR2 hf2
      have b1 := hb2.cell 1 rfl
      go_upto_region 7 with (fail)
      go_quiet (fail)
      go_wp2_with fail
      go_ret2
      exact roomPost hr (by omega) HBQ.out.2 H2.out.1 H2.out.2 ((Fr.refl _ _).drewN _) rfl
    · have hnew := snew_bad q (.slice A q.s.length c) w1 hs1 (by omega) hr
      simp only [Qu.v] at hnew
      have hr' : (rightE q == 0) = false := by simp [hr]
      have hr'' : (rightE q != 0) = true := by simp [hr]
      have HN := Lib.hid hnew
      have hm0 : 0 ≤ maxLen := Nat.zero_le _
      obtain ⟨E, hE⟩ : ∃ E, E = rightE q := ⟨_, rfl⟩
      rw [← hE] at HN hr' hr'' hr
      clear hnew bf hE hr
      go_wp2_with fail
      refine HN.out.mono ?_
      rintro e w2 ⟨rfl, hf2⟩
      have H2 := Lib.hid hf2
      clear b0 b1 b2 b3 b4 hf2
      go_wp2_with fail
      refine (three_any w2).mono ?_
      rintro e w3 ⟨rfl, hf3⟩
      have H3 := Lib.hid (H2.out.tr hf3)
      clear hf3
      simp only [Qu.v]
      go_wp2_with fail
      refine (snew_ok Q3 (.slice none 0 0) w3 (ints_nil w3) (fun c e => by injection e with _ _ e; exact e.symm) (Nat.zero_le _) (by kernel_rfl)).mono ?_
      rintro e w4 ⟨r, nb, G, rfl, hR4, hf4⟩
      have H4 := Lib.hid (And.intro hR4 hf4)
      clear hR4 hf4
      go_wp2_with fail
      go_ret2
      exact roomPost (q := Q3) (by kernel_rfl) (Nat.zero_le _) (HBQ.out.2.tr H3.out) H4.out.1 H4.out.2 (Fr.refl _ _) rfl
  · have hl' : (40 : Int) < (q.s.length : Int) := by omega
    go_wp2_with fail
    refine (three_any w1).mono ?_
    rintro e w2 ⟨rfl, hf2⟩
    have hb2 := hb1.fr hf2 (fun h => h)
    have H2 := Lib.hid hf2
    clear b0 b1 b2 b3 b4 hf2 bf
    have b0 := hb2.cell 0 rfl
    have b1 := hb2.cell 1 rfl
    have b2 := hb2.cell 2 rfl
    have b3 := hb2.cell 3 rfl
    have b4 := hb2.cell 4 rfl
    have bf := hb2.frozen
    simp only [Qu.v]
    have hb3 := (((((hb2.set_ 0 (.int .i64 Q3.k)).set_ 1 (.int .i64 Q3.n)).set_ 2 (.int .i64 Q3.o)).set_ 3 (.int .i64 Q3.t)).set_ 4 (.slice none 0 0))
    have hf3 : Fr (fun k => k = bq) w2 (((((w2.setCell ⟨bq, 0, none⟩ (.int .i64 Q3.k)).setCell ⟨bq, 1, none⟩ (.int .i64 Q3.n)).setCell ⟨bq, 2, none⟩ (.int .i64 Q3.o)).setCell ⟨bq, 3, none⟩ (.int .i64 Q3.t)).setCell ⟨bq, 4, none⟩ (.slice none 0 0)) := ((((Fr.set1 _ _ _ _).setCell (p := ⟨bq, 1, none⟩) (fun _ => rfl) _).setCell (p := ⟨bq, 2, none⟩) (fun _ => rfl) _).setCell (p := ⟨bq, 3, none⟩) (fun _ => rfl) _).setCell (p := ⟨bq, 4, none⟩) (fun _ => rfl) _
    obtain ⟨w3, hw3⟩ : ∃ w3, w3 = (((((w2.setCell ⟨bq, 0, none⟩ (.int .i64 Q3.k)).setCell ⟨bq, 1, none⟩ (.int .i64 Q3.n)).setCell ⟨bq, 2, none⟩ (.int .i64 Q3.o)).setCell ⟨bq, 3, none⟩ (.int .i64 Q3.t)).setCell ⟨bq, 4, none⟩ (.slice none 0 0)) := ⟨_, rfl⟩
    rw [← hw3] at hb3 hf3
    have hb3 : Blk w3 bq 24 #[.int .i64 Q3.k, .int .i64 Q3.n, .int .i64 Q3.o, .int .i64 Q3.t, .slice none 0 0] := by simpa using hb3
    have hw13 : Fr (fun _ => False) w w3 := (HBQ.out.2.tr H2.out).trans hf3 (fun k hk hx => hx.elim id (fun e => by have := HBQ.out.1; omega))
    have H3 := Lib.hid (And.intro hw3 hw13)
    clear hw3 hf3 hw13
    go_upto_region 3 with (fail)
    rw [← H3.out.1]
    clear b0 b1 b2 b3 b4 bf
    have b0 := hb3.cell 0 rfl
    have b1 := hb3.cell 1 rfl
    have b2 := hb3.cell 2 rfl
    have b3 := hb3.cell 3 rfl
    have b4 := hb3.cell 4 rfl
    go_wp2_with fail
    refine (snew_ok Q3 (.slice none 0 0) w3 (ints_nil w3) (fun c e => by injection e with _ _ e; exact e.symm) (Nat.zero_le _) (by kernel_rfl)).mono ?_
    rintro e w4 ⟨r, nb, G, rfl, hR4, hf4⟩
    have hb4 := hb3.fr hf4 (fun h => h)
    have H4 := Lib.hid (And.intro hR4 hf4)
    clear b0 b1 b2 b3 b4 hR4 hf4
    have b1 := hb4.cell 1 rfl
    go_upto_region 7 with (fail)
    go_quiet (fail)
    go_wp2_with fail
    go_ret2
    exact roomPost (q := Q3) (by kernel_rfl) (Nat.zero_le _) H3.out.2 H4.out.1 H4.out.2 ((Fr.refl _ _).drewN _) rfl
end Go.Proofs.Ytkpfgoalohbfeaa
