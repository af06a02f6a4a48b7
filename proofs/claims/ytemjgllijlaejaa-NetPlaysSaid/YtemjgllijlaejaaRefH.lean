/- The walk of play, kind by kind. -/
import Derived.Test.YtemjgllijlaejaaRefG
import Derived.Deep.RegionHeld3
namespace Go.Proofs.Ytemjgllijlaejaa
open Go.RowKit

section
variable {W w w' : World} {nb mb : Nat} {N : Int} {L L' M M' : List Pk} {A A' : Nat → Nat → Bool} {F F' G X : Nat → Prop} {P P' : List (Int × Int)}
/-- A new block beside both nets. -/
theorem Two.new (h : Two W w nb mb N L A F M P G) (cs : Array Value) (t : TypeId) : ∃ w1 q, w1 = w.alloc (.cells cs t) ∧ q = w.heap.size ∧ Blk w1 q t cs ∧ Two W w1 nb mb N L A F M P G ∧ ¬ F q ∧ ¬ G q ∧ W.heap.size ≤ q ∧ Fr (fun _ => False) w w1 :=
  ⟨_, _, rfl, rfl, Blk.new _ _ _, h.up ((Fr.refl _ w).alloc _), fun hx => by have := h.st.hi _ hx; omega, fun hx => by have := h.hi _ hx; omega, h.fr.size, (Fr.refl _ w).alloc _⟩
theorem Mv.not {q : Nat} (m : Mv F w F' w') (nf : ¬ F q) (hq : q < w.heap.size) : ¬ F' q := fun h => by
  rcases m.new q h with h1 | h1
  · exact nf h1
  · omega
end
theorem Marks.own {w : World} {g cap : Nat} {bs : List UInt8} (h : Marks w g cap bs) : w.ownsRow 0 5 1 (.slice (some ⟨g, 0, none⟩) bs.length cap) bs.length (u8s bs) := by
  obtain ⟨cur, h1, h2, h3, h4, h5⟩ := h
  refine own_mk h1 (by omega) h3 (by rw [h4, Nat.mul_one]) ?_
  have := congrArg (List.take bs.length) h5
  rw [List.take_take, Nat.min_eq_left (by omega), u8s_append, List.take_append_of_le_length (by simp)] at this
  rw [Nat.mul_one, this, List.take_of_length_le (by simp)]
/-- What a call of play leaves: it answers true; both nets go on alike. -/
def PlayPost (W : World) (nb mb : Nat) (N : Int) (m : Nat) (e : Ending) (w' : World) : Prop :=
  e = .returned (.bool true) ∧ ∃ L A F P G, Two W w' nb mb N L A F L P G ∧ Fit N L A P m
theorem byt_nil (w : World) : Byt w (.slice none 0 0) [] := ⟨none, 0, rfl, fun _ => rfl, fun h => absurd rfl h⟩
theorem own_sl {w : World} {base e size n : Nat} {v : Value} {xs : List Value} (h : w.ownsRow base e size v n xs) : ∃ va vc, v = .slice va n vc := by
  rcases own_form h with ⟨h1, h2, _⟩ | ⟨g, cap, cur, h1, _⟩
  · exact ⟨none, 0, by rw [h1, h2]⟩
  · exact ⟨some ⟨g, 0, none⟩, cap, h1⟩

section
variable (W w : World) (nb mb : Nat) (N : Int) (L : List Pk) (A : Nat → Nat → Bool) (F : Nat → Prop) (P : List (Int × Int)) (G : Nat → Prop) (m : Nat) (k a b : Int) (p : Pk) (s : Value)
  (h : Two W w nb mb N L A F L P G) (fit : Fit N L A P m) (hm : m ≤ 900) (hs : Byt W s p.b) (hl : p.b.length ≤ 3000)
include h fit hm hs hl
set_option maxRecDepth 100000 in
set_option maxHeartbeats 8000000 in
theorem play_send0 :
    Calls Try.prog 23 #[.pointer (some ⟨nb, 0, none⟩), .pointer (some ⟨mb, 0, none⟩), .agg #[.int .i64 0, .int .i64 a, .int .i64 b, .int .i64 p.f, .int .i64 p.t, s]] w (PlayPost W nb mb N (m + 1)) := by
  have hs0 := hs
  obtain ⟨sa, sc, rfl, -, -⟩ := hs0
  obtain ⟨w1, q, hw1, hq, hb1, T1, nf1, ng1, lo1, hf1⟩ := h.new #[.int .i64 0, .int .i64 a, .int .i64 b, .int .i64 p.f, .int .i64 p.t, .slice sa p.b.length sc] 46
  have HW1 := Lib.hid hw1
  have HQ := Lib.hid hq
  have hr6 := h.st.r.room
  have _u1 := hm
  have _u2 := hl
  clear _u1 _u2
  have c0 := hb1.cell 0 rfl
  have c1 := hb1.cell 1 rfl
  have c2 := hb1.cell 2 rfl
  have c3 := hb1.cell 3 rfl
  have c4 := hb1.cell 4 rfl
  have c5 := hb1.cell 5 rfl
  clear hw1 hq h
  go_enter Try.func23, Try.ntmps23
  go_upto_region 1 with (fail)
  rw [← HW1.out, ← HQ.out]
  clear HW1 HQ hf1
  obtain ⟨w2, r, hw2, hr, hb2, T2, nf2, ng2, lo2, hf2⟩ := T1.new #[.int .i64 p.f, .int .i64 p.t, .slice sa p.b.length sc] 29
  have hbq := hb1.fr hf2 (fun h => h)
  have hs2 := hs.keep (Nat.le_refl _) T2.fr
  have HW2 := Lib.hid hw2
  have HR := Lib.hid hr
  have c6 := hf2.cell c5 (fun h => h)
  have hrq : r ≠ q := by have := hb1.lt; omega
  clear hw2 hr hf2
  go_upto_region 5 with (fail)
  rw [← HW2.out, ← HR.out]
  clear HW2 HR c0 c1 c2 c3 c4 c5
  go_wp2_with fail
  refine (lent_any _ p.b w2 hs2 (by omega)).mono ?_
  rintro e w3 ⟨g, cap, rfl, hmk, hg, hf3⟩
  have hg3 : g < w3.heap.size := by obtain ⟨cur, h1, _⟩ := hmk; exact h1.lt
  have T3 := T2.up hf3
  have hbq3 := hbq.fr hf3 (fun h => h)
  have hbr3 := hb2.fr hf3 (fun h => h)
  have nfg : ¬ F g := fun hx => by have := T2.st.hi g hx; omega
  have ngg : ¬ G g := fun hx => by have := T2.hi g hx; omega
  have hgr : g ≠ r := by have := hb2.lt; omega
  have hgq : g ≠ q := by have := hbq.lt; omega
  have log : W.heap.size ≤ g := Nat.le_trans T2.fr.size hg
  have r0 := hbr3.cell 0 rfl
  have r1 := hbr3.cell 1 rfl
  have r2 := hbr3.cell 2 rfl
  have r3 := hbr3.frozen 2
  obtain ⟨w4, hw4⟩ : ∃ w4, w4 = w3.setCell ⟨r, 2, none⟩ (.slice (some ⟨g, 0, none⟩) p.b.length cap) := ⟨_, rfl⟩
  have hf4 : Fr (fun k => k = r) w3 w4 := by rw [hw4]; exact Fr.set1 _ _ _ _
  have T4 := T3.far hf4 (fun k hk => by subst hk; exact ⟨lo2, nf2, ng2⟩)
  have hbq4 := hbq3.fr hf4 (fun h => hrq h.symm)
  have hbr4 : Blk w4 r 29 #[.int .i64 p.f, .int .i64 p.t, .slice (some ⟨g, 0, none⟩) p.b.length cap] := by
    have := hbr3.set_ 2 (.slice (some ⟨g, 0, none⟩) p.b.length cap)
    rw [hw4]; simpa using this
  have hmk4 := hmk.fr hf4 hgr
  have hg4 : g < w4.heap.size := Nat.lt_of_lt_of_le hg3 hf4.size
  have HW4 := Lib.hid hw4
  clear hw4 c6 hmk hbq3 hbr3 hf4 hf3 hb2 hbq hb1
  go_upto_region 6 with (fail)
  rw [← HW4.out]
  clear HW4 r0 r1 r2 r3
  have d0 := hbr4.cell 0 rfl
  have d1 := hbr4.cell 1 rfl
  have d2 := hbr4.cell 2 rfl
  go_wp2_with fail
  refine (send_st W.heap.size nb N L A F w4 T4.st T4.fr.size p _ hmk4.byt (by omega)).mono ?_
  rintro e w5 ⟨rfl, F', hS, hM⟩
  have T5 := T4.net hS hM
  have hbq5 := hbq4.fr hM.fr nf1
  have hbr5 := hbr4.fr hM.fr nf2
  have hmk5 := hmk4.fr hM.fr nfg
  have nf1' := hM.not nf1 hbq4.lt
  have nf2' := hM.not nf2 hbr4.lt
  have nfg' := hM.not nfg hg4
  have hs5 := hs.keep (Nat.le_refl _) T5.fr
  have hg5 : g < w5.heap.size := Nat.lt_of_lt_of_le hg4 hM.fr.size
  have e3 := hbq5.cell 3 rfl
  have e4 := hbq5.cell 4 rfl
  have e5 := hbq5.cell 5 rfl
  generalize hz : sendE N L p = z
  have HZ := Lib.hid hz
  clear hS hM d0 d1 d2 hmk4 hbq4 hbr4 hz
  go_wp2_with fail
  refine (rsend_any mb N L A P G p _ w5 T5.rf hs5 fit (by omega)).mono ?_
  rintro e w6 ⟨rfl, hR, hf6⟩
  obtain ⟨G', T6, hG'⟩ := T5.ref hR hf6
  have hbq6 := hbq5.fr hf6 ng1
  have hbr6 := hbr5.fr hf6 ng2
  have hmk6 := hmk5.fr hf6 ngg
  have ngg' : ¬ G' g := fun hx => by rcases hG' g hx with h1 | h1; exact ngg h1; omega
  have hs6 := hs.keep (Nat.le_refl _) T6.fr
  have f5 := hbq6.cell 5 rfl
  have f2 := hbr6.cell 2 rfl
  rw [HZ.out]
  clear hR hf6 hG' e3 e4 e5 hbq5 hbr5 hmk5
  go_wp2_with fail
  refine (whole_any g cap _ p.b w6 hmk6 hs6 (by omega)).mono ?_
  rintro e w7 ⟨rfl, rfl⟩
  go_wp2_with fail
  have hown : w6.ownsRow 0 5 1 (.slice (some ⟨g, 0, none⟩) p.b.length cap) p.b.length (u8s p.b) := hmk6.own
  refine (spoil_any _ p.b w6 hown).mono ?_
  rintro e w7 ⟨rfl, hf7⟩
  have T7 := T6.far hf7 (fun k hk => by simp only [Value.ownBlock] at hk; injection hk with hk; subst hk; exact ⟨log, nfg', ngg'⟩)
  clear f5 f2 hown hmk6 hbq6 hbr6
  go_wp2_with fail
  go_ret
  exact ⟨rfl, _, _, _, _, _, T7, fit.mono (sendL_sm fit.sm) (by omega)⟩
set_option maxRecDepth 100000 in
set_option maxHeartbeats 8000000 in
theorem play_send1 :
    Calls Try.prog 23 #[.pointer (some ⟨nb, 0, none⟩), .pointer (some ⟨mb, 0, none⟩), .agg #[.int .i64 1, .int .i64 a, .int .i64 b, .int .i64 p.f, .int .i64 p.t, s]] w (PlayPost W nb mb N (m + 1)) := by
  have hs0 := hs
  obtain ⟨sa, sc, rfl, -, -⟩ := hs0
  obtain ⟨w1, q, hw1, hq, hb1, T1, nf1, ng1, lo1, hf1⟩ := h.new #[.int .i64 1, .int .i64 a, .int .i64 b, .int .i64 p.f, .int .i64 p.t, .slice sa p.b.length sc] 46
  have HW1 := Lib.hid hw1
  have HQ := Lib.hid hq
  have hr6 := h.st.r.room
  have _u1 := hm
  have _u2 := hl
  clear _u1 _u2
  have c0 := hb1.cell 0 rfl
  have c1 := hb1.cell 1 rfl
  have c2 := hb1.cell 2 rfl
  have c3 := hb1.cell 3 rfl
  have c4 := hb1.cell 4 rfl
  have c5 := hb1.cell 5 rfl
  clear hw1 hq h
  go_enter Try.func23, Try.ntmps23
  go_upto_region 1 with (fail)
  rw [← HW1.out, ← HQ.out]
  clear HW1 HQ hf1
  obtain ⟨w2, r, hw2, hr, hb2, T2, nf2, ng2, lo2, hf2⟩ := T1.new #[.int .i64 p.f, .int .i64 p.t, .slice sa p.b.length sc] 29
  have hbq := hb1.fr hf2 (fun h => h)
  have hs2 := hs.keep (Nat.le_refl _) T2.fr
  have HW2 := Lib.hid hw2
  have HR := Lib.hid hr
  have c6 := hf2.cell c5 (fun h => h)
  have hrq : r ≠ q := by have := hb1.lt; omega
  clear hw2 hr hf2
  go_upto_region 5 with (fail)
  rw [← HW2.out, ← HR.out]
  clear HW2 HR c0 c1 c2 c3 c4 c5
  go_wp2_with fail
  refine (lent_any _ p.b w2 hs2 (by omega)).mono ?_
  rintro e w3 ⟨g, cap, rfl, hmk, hg, hf3⟩
  have hg3 : g < w3.heap.size := by obtain ⟨cur, h1, _⟩ := hmk; exact h1.lt
  have T3 := T2.up hf3
  have hbq3 := hbq.fr hf3 (fun h => h)
  have hbr3 := hb2.fr hf3 (fun h => h)
  have nfg : ¬ F g := fun hx => by have := T2.st.hi g hx; omega
  have ngg : ¬ G g := fun hx => by have := T2.hi g hx; omega
  have hgr : g ≠ r := by have := hb2.lt; omega
  have hgq : g ≠ q := by have := hbq.lt; omega
  have log : W.heap.size ≤ g := Nat.le_trans T2.fr.size hg
  have r0 := hbr3.cell 0 rfl
  have r1 := hbr3.cell 1 rfl
  have r2 := hbr3.cell 2 rfl
  have r3 := hbr3.frozen 2
  obtain ⟨w4, hw4⟩ : ∃ w4, w4 = w3.setCell ⟨r, 2, none⟩ (.slice (some ⟨g, 0, none⟩) p.b.length cap) := ⟨_, rfl⟩
  have hf4 : Fr (fun k => k = r) w3 w4 := by rw [hw4]; exact Fr.set1 _ _ _ _
  have T4 := T3.far hf4 (fun k hk => by subst hk; exact ⟨lo2, nf2, ng2⟩)
  have hbq4 := hbq3.fr hf4 (fun h => hrq h.symm)
  have hbr4 : Blk w4 r 29 #[.int .i64 p.f, .int .i64 p.t, .slice (some ⟨g, 0, none⟩) p.b.length cap] := by
    have := hbr3.set_ 2 (.slice (some ⟨g, 0, none⟩) p.b.length cap)
    rw [hw4]; simpa using this
  have hmk4 := hmk.fr hf4 hgr
  have hg4 : g < w4.heap.size := Nat.lt_of_lt_of_le hg3 hf4.size
  have HW4 := Lib.hid hw4
  clear hw4 c6 hmk hbq3 hbr3 hf4 hf3 hb2 hbq hb1
  go_upto_region 6 with (fail)
  rw [← HW4.out]
  clear HW4 r0 r1 r2 r3
  have d0 := hbr4.cell 0 rfl
  have d1 := hbr4.cell 1 rfl
  have d2 := hbr4.cell 2 rfl
  go_wp2_with fail
  refine (send_st W.heap.size nb N L A F w4 T4.st T4.fr.size p _ hmk4.byt (by omega)).mono ?_
  rintro e w5 ⟨rfl, F', hS, hM⟩
  have T5 := T4.net hS hM
  have hbq5 := hbq4.fr hM.fr nf1
  have hbr5 := hbr4.fr hM.fr nf2
  have hmk5 := hmk4.fr hM.fr nfg
  have nf1' := hM.not nf1 hbq4.lt
  have nf2' := hM.not nf2 hbr4.lt
  have nfg' := hM.not nfg hg4
  have hs5 := hs.keep (Nat.le_refl _) T5.fr
  have hg5 : g < w5.heap.size := Nat.lt_of_lt_of_le hg4 hM.fr.size
  have e3 := hbq5.cell 3 rfl
  have e4 := hbq5.cell 4 rfl
  have e5 := hbq5.cell 5 rfl
  generalize hz : sendE N L p = z
  have HZ := Lib.hid hz
  clear hS hM d0 d1 d2 hmk4 hbq4 hbr4 hz
  go_wp2_with fail
  refine (rsend_any mb N L A P G p _ w5 T5.rf hs5 fit (by omega)).mono ?_
  rintro e w6 ⟨rfl, hR, hf6⟩
  obtain ⟨G', T6, hG'⟩ := T5.ref hR hf6
  have hbq6 := hbq5.fr hf6 ng1
  have hbr6 := hbr5.fr hf6 ng2
  have hmk6 := hmk5.fr hf6 ngg
  have ngg' : ¬ G' g := fun hx => by rcases hG' g hx with h1 | h1; exact ngg h1; omega
  have hs6 := hs.keep (Nat.le_refl _) T6.fr
  have f5 := hbq6.cell 5 rfl
  have f2 := hbr6.cell 2 rfl
  rw [HZ.out]
  clear hR hf6 hG' e3 e4 e5 hbq5 hbr5 hmk5
  go_wp2_with fail
  refine (whole_any g cap _ p.b w6 hmk6 hs6 (by omega)).mono ?_
  rintro e w7 ⟨rfl, rfl⟩
  go_wp2_with fail
  have hown : w6.ownsRow 0 5 1 (.slice (some ⟨g, 0, none⟩) p.b.length cap) p.b.length (u8s p.b) := hmk6.own
  refine (spoil_any _ p.b w6 hown).mono ?_
  rintro e w7 ⟨rfl, hf7⟩
  have T7 := T6.far hf7 (fun k hk => by simp only [Value.ownBlock] at hk; injection hk with hk; subst hk; exact ⟨log, nfg', ngg'⟩)
  clear f5 f2 hown hmk6 hbq6 hbr6
  go_wp2_with fail
  go_ret
  exact ⟨rfl, _, _, _, _, _, T7, fit.mono (sendL_sm fit.sm) (by omega)⟩
set_option maxRecDepth 100000 in
set_option maxHeartbeats 8000000 in
theorem play_take :
    Calls Try.prog 23 #[.pointer (some ⟨nb, 0, none⟩), .pointer (some ⟨mb, 0, none⟩), .agg #[.int .i64 2, .int .i64 a, .int .i64 b, .int .i64 p.f, .int .i64 p.t, s]] w (PlayPost W nb mb N (m + 1)) := by
  have hs0 := hs
  obtain ⟨sa, sc, rfl, -, -⟩ := hs0
  obtain ⟨w1, q, hw1, hq, hb1, T1, nf1, ng1, lo1, hf1⟩ := h.new #[.int .i64 2, .int .i64 a, .int .i64 b, .int .i64 p.f, .int .i64 p.t, .slice sa p.b.length sc] 46
  have HW1 := Lib.hid hw1
  have HQ := Lib.hid hq
  have hr6 := h.st.r.room
  have _u1 := hm
  have _u2 := hl
  clear _u1 _u2
  have c0 := hb1.cell 0 rfl
  have c1 := hb1.cell 1 rfl
  have c2 := hb1.cell 2 rfl
  have c3 := hb1.cell 3 rfl
  have c4 := hb1.cell 4 rfl
  have c5 := hb1.cell 5 rfl
  clear hw1 hq h
  go_enter Try.func23, Try.ntmps23
  go_upto_region 1 with (fail)
  rw [← HW1.out, ← HQ.out]
  clear HW1 HQ hf1
  have hs1 := hs
  cases ha : at? L a with
  | some p' =>
    have hpb := fit.sm p' (at?_mem ha)
    have HA := Lib.hid ha
    clear ha
    go_wp2_with fail
    refine (take_st_some W.heap.size nb N L A F w1 T1.st a p' HA.out).mono ?_
    rintro e w2 ⟨g, cap, rfl, ho, hg, F', hS, hng, hM⟩
    have T2 := T1.net hS hM
    have hbq2 := hb1.fr hM.fr nf1
    have nf1' := hM.not nf1 hb1.lt
    have ngg : ¬ G g := T1.dis g hg
    have log := T1.st.lo g hg
    obtain ⟨w3, r, hw3, hr, hb3, T3, nf3, ng3, lo3, hf3⟩ := T2.new #[.int .i64 p'.f, .int .i64 p'.t, .slice (some ⟨g, 0, none⟩) p'.b.length cap] 29
    have hbq3 := hbq2.fr hf3 (fun h => h)
    have ho3 := own_fr ho hf3 (fun _ _ h => h)
    have HW3 := Lib.hid hw3
    have HR := Lib.hid hr
    have c1' := hbq3.cell 1 rfl
    clear hw3 hr hS hM hg hng hf3 ho c0 c1 c2 c3 c4 c5 hb1
    go_upto_region 13 with (fail)
    rw [← HW3.out, ← HR.out]
    clear HW3 HR
    go_wp2_with fail
    refine (rtake_some mb N L P G a p' HA.out (by omega) (by omega) w3 T3.rf T3.hi).mono ?_
    rintro e w4 ⟨v, rfl, hov, hR, hf4⟩
    obtain ⟨va, vc, rfl⟩ := own_sl hov
    obtain ⟨G', T4, hG'⟩ := T3.ref hR hf4
    have hb4 := hb3.fr hf4 ng3
    have ho4 := own_fr ho3 hf4 (fun k hk h => by simp only [Value.ownBlock] at hk; injection hk with hk; subst hk; exact ngg h)
    obtain ⟨w5, r5, hw5, hr5, hb5, T5, nf5, ng5, lo5, hf5⟩ := T4.new #[.int .i64 p'.f, .int .i64 p'.t, .slice va p'.b.length vc] 29
    have hb45 := hb4.fr hf5 (fun h => h)
    have ho45 := own_fr ho4 hf5 (fun _ _ h => h)
    have hov5 := own_fr hov hf5 (fun _ _ h => h)
    have HW5 := Lib.hid hw5
    have HR5 := Lib.hid hr5
    clear hw5 hr5 hR hf4 hG' hf5 c1' hb3 hb4 ho4 hov ho3
    go_upto_region 14 with (fail)
    rw [← HW5.out, ← HR5.out]
    clear HW5 HR5
    have d0 := hb45.cell 0 rfl
    have d1 := hb45.cell 1 rfl
    have d2 := hb45.cell 2 rfl
    have e0 := hb5.cell 0 rfl
    have e1 := hb5.cell 1 rfl
    have e2 := hb5.cell 2 rfl
    go_wp2_with fail
    refine (same_any p' p' _ _ w5 (Byt.of_own ho45) (Byt.of_own hov5)).mono ?_
    rintro e w6 ⟨rfl, hf6⟩
    rw [sameB_refl]
    have T6 := T5.up hf6
    clear d0 d1 d2 e0 e1 e2 hf6
    go_wp2_with fail
    go_ret
    exact ⟨rfl, _, _, _, _, _, T6, fit.mono (sm_erase fit.sm) (by omega)⟩
  | none =>
    have HA := Lib.hid ha
    clear ha
    go_wp2_with fail
    refine (take_none nb N L A F a HA.out w1 T1.st.r).mono ?_
    rintro e w2 ⟨rfl, hf2⟩
    have T2 := T1.up hf2
    have hbq2 := hb1.fr hf2 (fun h => h)
    obtain ⟨w3, r, hw3, hr, hb3, T3, nf3, ng3, lo3, hf3⟩ := T2.new #[.int .i64 0, .int .i64 0, .slice none 0 0] 29
    have hbq3 := hbq2.fr hf3 (fun h => h)
    have HW3 := Lib.hid hw3
    have HR := Lib.hid hr
    have c1' := hbq3.cell 1 rfl
    clear hw3 hr hf3 hf2 c0 c1 c2 c3 c4 c5 hb1
    go_upto_region 13 with (fail)
    rw [← HW3.out, ← HR.out]
    clear HW3 HR
    go_wp2_with fail
    refine (rtake_none mb N L P G a HA.out w3 T3.rf).mono ?_
    rintro e w4 ⟨rfl, hf4⟩
    have T4 := T3.up hf4
    have hb4 := hb3.fr hf4 (fun h => h)
    obtain ⟨w5, r5, hw5, hr5, hb5, T5, nf5, ng5, lo5, hf5⟩ := T4.new #[.int .i64 0, .int .i64 0, .slice none 0 0] 29
    have hb45 := hb4.fr hf5 (fun h => h)
    have HW5 := Lib.hid hw5
    have HR5 := Lib.hid hr5
    clear hw5 hr5 hf4 hf5 c1' hb3 hb4
    go_upto_region 14 with (fail)
    rw [← HW5.out, ← HR5.out]
    clear HW5 HR5
    have d0 := hb45.cell 0 rfl
    have d1 := hb45.cell 1 rfl
    have d2 := hb45.cell 2 rfl
    have e0 := hb5.cell 0 rfl
    have e1 := hb5.cell 1 rfl
    have e2 := hb5.cell 2 rfl
    go_wp2_with fail
    refine (same_any ⟨0, 0, []⟩ ⟨0, 0, []⟩ _ _ w5 (byt_nil _) (byt_nil _)).mono ?_
    rintro e w6 ⟨rfl, hf6⟩
    rw [sameB_refl]
    have T6 := T5.up hf6
    clear d0 d1 d2 e0 e1 e2 hf6
    go_wp2_with fail
    go_ret
    exact ⟨rfl, _, _, _, _, _, T6, fit.mono fit.sm (by omega)⟩
set_option maxRecDepth 100000 in
set_option maxHeartbeats 8000000 in
theorem play_drop :
    Calls Try.prog 23 #[.pointer (some ⟨nb, 0, none⟩), .pointer (some ⟨mb, 0, none⟩), .agg #[.int .i64 3, .int .i64 a, .int .i64 b, .int .i64 p.f, .int .i64 p.t, s]] w (PlayPost W nb mb N (m + 1)) := by
  have hs0 := hs
  obtain ⟨sa, sc, rfl, -, -⟩ := hs0
  obtain ⟨w1, q, hw1, hq, hb1, T1, nf1, ng1, lo1, hf1⟩ := h.new #[.int .i64 3, .int .i64 a, .int .i64 b, .int .i64 p.f, .int .i64 p.t, .slice sa p.b.length sc] 46
  have HW1 := Lib.hid hw1
  have HQ := Lib.hid hq
  have hr6 := h.st.r.room
  have _u1 := hm
  have _u2 := hl
  clear _u1 _u2
  have c0 := hb1.cell 0 rfl
  have c1 := hb1.cell 1 rfl
  have c2 := hb1.cell 2 rfl
  have c3 := hb1.cell 3 rfl
  have c4 := hb1.cell 4 rfl
  have c5 := hb1.cell 5 rfl
  clear hw1 hq h
  go_enter Try.func23, Try.ntmps23
  go_upto_region 1 with (fail)
  rw [← HW1.out, ← HQ.out]
  clear HW1 HQ hf1
  cases ha : at? L a with
  | some p' =>
    have hpb := fit.sm p' (at?_mem ha)
    have HA := Lib.hid ha
    clear ha
    go_wp2_with fail
    refine (drop_st_some W.heap.size nb N L A F w1 T1.st T1.fr.size a p' HA.out).mono ?_
    rintro e w2 ⟨rfl, F', hS, hM⟩
    have T2 := T1.net hS hM
    have hbq2 := hb1.fr hM.fr nf1
    have c1' := hbq2.cell 1 rfl
    clear hS hM c0 c1 c2 c3 c4 c5 hb1
    go_wp2_with fail
    refine (rtake_some mb N L P G a p' HA.out (by omega) (by omega) w2 T2.rf T2.hi).mono ?_
    rintro e w4 ⟨v, rfl, hov, hR, hf4⟩
    obtain ⟨va, vc, rfl⟩ := own_sl hov
    obtain ⟨G', T4, hG'⟩ := T2.ref hR hf4
    have T5 := T4.up ((Fr.refl _ w4).alloc (.cells #[.int .i64 p'.f, .int .i64 p'.t, .slice va p'.b.length vc] 29))
    clear hR hf4 hG' c1' hov
    go_wp2_with fail
    go_ret
    exact ⟨rfl, _, _, _, _, _, T5, fit.mono (sm_erase fit.sm) (by omega)⟩
  | none =>
    have HA := Lib.hid ha
    clear ha
    go_wp2_with fail
    refine (drop_none nb N L A F a HA.out w1 T1.st.r).mono ?_
    rintro e w2 ⟨rfl, rfl⟩
    go_wp2_with fail
    refine (rtake_none mb N L P G a HA.out _ T1.rf).mono ?_
    rintro e w4 ⟨rfl, hf4⟩
    have T4 := T1.up hf4
    have T5 := T4.up ((Fr.refl _ w4).alloc (.cells #[.int .i64 0, .int .i64 0, .slice none 0 0] 29))
    clear hf4 c0 c1 c2 c3 c4 c5
    go_wp2_with fail
    go_ret
    exact ⟨rfl, _, _, _, _, _, T5, fit.mono fit.sm (by omega)⟩
set_option maxRecDepth 100000 in
set_option maxHeartbeats 8000000 in
theorem play_twice :
    Calls Try.prog 23 #[.pointer (some ⟨nb, 0, none⟩), .pointer (some ⟨mb, 0, none⟩), .agg #[.int .i64 4, .int .i64 a, .int .i64 b, .int .i64 p.f, .int .i64 p.t, s]] w (PlayPost W nb mb N (m + 1)) := by
  have hs0 := hs
  obtain ⟨sa, sc, rfl, -, -⟩ := hs0
  obtain ⟨w1, q, hw1, hq, hb1, T1, nf1, ng1, lo1, hf1⟩ := h.new #[.int .i64 4, .int .i64 a, .int .i64 b, .int .i64 p.f, .int .i64 p.t, .slice sa p.b.length sc] 46
  have HW1 := Lib.hid hw1
  have HQ := Lib.hid hq
  have hr6 := h.st.r.room
  have _u1 := hm
  have _u2 := hl
  clear _u1 _u2
  have c0 := hb1.cell 0 rfl
  have c1 := hb1.cell 1 rfl
  have c2 := hb1.cell 2 rfl
  have c3 := hb1.cell 3 rfl
  have c4 := hb1.cell 4 rfl
  have c5 := hb1.cell 5 rfl
  clear hw1 hq h
  go_enter Try.func23, Try.ntmps23
  go_upto_region 1 with (fail)
  rw [← HW1.out, ← HQ.out]
  clear HW1 HQ hf1
  cases ha : at? L a with
  | some p' =>
    have hpb := fit.sm p' (at?_mem ha)
    have HA := Lib.hid ha
    clear ha
    by_cases hfl : L.length < 256
    · go_wp2_with fail
      refine (twice_st_some W.heap.size nb N L A F w1 T1.st T1.fr.size a p' HA.out (by omega) hfl).mono ?_
      rintro e w2 ⟨rfl, F', hS, hM⟩
      have T2 := T1.net hS hM
      have hbq2 := hb1.fr hM.fr nf1
      have c1' := hbq2.cell 1 rfl
      clear hS hM c0 c1 c2 c3 c4 c5 hb1
      go_wp2_with fail
      refine (rtwice_some mb N L P G a p' HA.out (by omega) hfl w2 T2.rf).mono ?_
      rintro e w4 ⟨rfl, hR, hf4⟩
      obtain ⟨G', T4, hG'⟩ := T2.ref hR hf4
      clear hR hf4 hG' c1'
      go_wp2_with fail
      go_ret
      exact ⟨rfl, _, _, _, _, _, T4, fit.mono (sm_more fit.sm hpb) (by omega)⟩
    · go_wp2_with fail
      refine (twice_full nb N L A F a (by omega) w1 T1.st.r).mono ?_
      rintro e w2 ⟨rfl, rfl⟩
      go_wp2_with fail
      refine (rtwice_full mb N L P G a p' HA.out (by omega) (by omega) _ T1.rf).mono ?_
      rintro e w4 ⟨rfl, hf4⟩
      have T4 := T1.up hf4
      clear hf4 c0 c1 c2 c3 c4 c5
      go_wp2_with fail
      go_ret
      exact ⟨rfl, _, _, _, _, _, T4, fit.mono fit.sm (by omega)⟩
  | none =>
    have HA := Lib.hid ha
    clear ha
    go_wp2_with fail
    refine (twice_none nb N L A F a HA.out w1 T1.st.r).mono ?_
    rintro e w2 ⟨rfl, rfl⟩
    go_wp2_with fail
    refine (rtwice_none mb N L P G a HA.out _ T1.rf).mono ?_
    rintro e w4 ⟨rfl, hf4⟩
    have T4 := T1.up hf4
    clear hf4 c0 c1 c2 c3 c4 c5
    go_wp2_with fail
    go_ret
    exact ⟨rfl, _, _, _, _, _, T4, fit.mono fit.sm (by omega)⟩
set_option maxRecDepth 100000 in
set_option maxHeartbeats 8000000 in
theorem play_back :
    Calls Try.prog 23 #[.pointer (some ⟨nb, 0, none⟩), .pointer (some ⟨mb, 0, none⟩), .agg #[.int .i64 5, .int .i64 a, .int .i64 b, .int .i64 p.f, .int .i64 p.t, s]] w (PlayPost W nb mb N (m + 1)) := by
  have hs0 := hs
  obtain ⟨sa, sc, rfl, -, -⟩ := hs0
  obtain ⟨w1, q, hw1, hq, hb1, T1, nf1, ng1, lo1, hf1⟩ := h.new #[.int .i64 5, .int .i64 a, .int .i64 b, .int .i64 p.f, .int .i64 p.t, .slice sa p.b.length sc] 46
  have HW1 := Lib.hid hw1
  have HQ := Lib.hid hq
  have hr6 := h.st.r.room
  have _u1 := hm
  have _u2 := hl
  clear _u1 _u2
  have c0 := hb1.cell 0 rfl
  have c1 := hb1.cell 1 rfl
  have c2 := hb1.cell 2 rfl
  have c3 := hb1.cell 3 rfl
  have c4 := hb1.cell 4 rfl
  have c5 := hb1.cell 5 rfl
  clear hw1 hq h
  go_enter Try.func23, Try.ntmps23
  go_upto_region 1 with (fail)
  rw [← HW1.out, ← HQ.out]
  clear HW1 HQ hf1
  cases ha : at? L a with
  | some p' =>
    have hpb := fit.sm p' (at?_mem ha)
    have HA := Lib.hid ha
    clear ha
    go_wp2_with fail
    refine (back_st_some W.heap.size nb N L A F w1 T1.st T1.fr.size a p' HA.out).mono ?_
    rintro e w2 ⟨rfl, F', hS, hM⟩
    have T2 := T1.net hS hM
    have hbq2 := hb1.fr hM.fr nf1
    have c1' := hbq2.cell 1 rfl
    clear hS hM c0 c1 c2 c3 c4 c5 hb1
    go_wp2_with fail
    refine (rback_some mb N L P G a p' HA.out (by omega) hr6 w2 T2.rf T2.hi).mono ?_
    rintro e w4 ⟨rfl, hR, hf4⟩
    obtain ⟨G', T4, hG'⟩ := T2.ref hR hf4
    clear hR hf4 hG' c1'
    go_wp2_with fail
    go_ret
    exact ⟨rfl, _, _, _, _, _, T4, fit.mono (sm_more (sm_erase fit.sm) hpb) (by omega)⟩
  | none =>
    have HA := Lib.hid ha
    clear ha
    go_wp2_with fail
    refine (back_none nb N L A F a HA.out w1 T1.st.r).mono ?_
    rintro e w2 ⟨rfl, rfl⟩
    go_wp2_with fail
    refine (rback_none mb N L P G a HA.out _ T1.rf).mono ?_
    rintro e w4 ⟨rfl, hf4⟩
    have T4 := T1.up hf4
    clear hf4 c0 c1 c2 c3 c4 c5
    go_wp2_with fail
    go_ret
    exact ⟨rfl, _, _, _, _, _, T4, fit.mono fit.sm (by omega)⟩
set_option maxRecDepth 100000 in
set_option maxHeartbeats 8000000 in
theorem play_look :
    Calls Try.prog 23 #[.pointer (some ⟨nb, 0, none⟩), .pointer (some ⟨mb, 0, none⟩), .agg #[.int .i64 6, .int .i64 a, .int .i64 b, .int .i64 p.f, .int .i64 p.t, s]] w (PlayPost W nb mb N (m + 1)) := by
  have hs0 := hs
  obtain ⟨sa, sc, rfl, -, -⟩ := hs0
  obtain ⟨w1, q, hw1, hq, hb1, T1, nf1, ng1, lo1, hf1⟩ := h.new #[.int .i64 6, .int .i64 a, .int .i64 b, .int .i64 p.f, .int .i64 p.t, .slice sa p.b.length sc] 46
  have HW1 := Lib.hid hw1
  have HQ := Lib.hid hq
  have hr6 := h.st.r.room
  have _u1 := hm
  have _u2 := hl
  clear _u1 _u2
  have c0 := hb1.cell 0 rfl
  have c1 := hb1.cell 1 rfl
  have c2 := hb1.cell 2 rfl
  have c3 := hb1.cell 3 rfl
  have c4 := hb1.cell 4 rfl
  have c5 := hb1.cell 5 rfl
  clear hw1 hq h
  go_enter Try.func23, Try.ntmps23
  go_upto_region 1 with (fail)
  rw [← HW1.out, ← HQ.out]
  clear HW1 HQ hf1
  cases ha : at? L a with
  | some p' =>
    have hpb := fit.sm p' (at?_mem ha)
    have HA := Lib.hid ha
    clear ha
    go_wp2_with fail
    refine (look_some nb N L A F a p' HA.out (by omega) w1 T1.st.r).mono ?_
    rintro e w2 ⟨g, cap, rfl, ho, hg, hf2⟩
    have T2 := T1.up hf2
    have hbq2 := hb1.fr hf2 (fun h => h)
    have nfg : ¬ F g := fun hx => by have := T1.st.hi g hx; omega
    have ngg : ¬ G g := fun hx => by have := T1.hi g hx; omega
    have log : W.heap.size ≤ g := Nat.le_trans T1.fr.size hg
    obtain ⟨w3, r, hw3, hr, hb3, T3, nf3, ng3, lo3, hf3⟩ := T2.new #[.int .i64 p'.f, .int .i64 p'.t, .slice (some ⟨g, 0, none⟩) p'.b.length cap] 29
    have hbq3 := hbq2.fr hf3 (fun h => h)
    have ho3 := own_fr ho hf3 (fun _ _ h => h)
    have HW3 := Lib.hid hw3
    have HR := Lib.hid hr
    have c1' := hbq3.cell 1 rfl
    clear hw3 hr hf2 hg hf3 ho c0 c1 c2 c3 c4 c5 hb1
    go_upto_region 29 with (fail)
    rw [← HW3.out, ← HR.out]
    clear HW3 HR
    go_wp2_with fail
    refine (rlook_some mb N L P G a p' HA.out (by omega) w3 T3.rf).mono ?_
    rintro e w4 ⟨v, rfl, hov, hf4⟩
    obtain ⟨va, vc, rfl⟩ := own_sl hov
    have T4 := T3.up hf4
    have hb4 := hb3.fr hf4 (fun h => h)
    have ho4 := own_fr ho3 hf4 (fun _ _ h => h)
    obtain ⟨w5, r5, hw5, hr5, hb5, T5, nf5, ng5, lo5, hf5⟩ := T4.new #[.int .i64 p'.f, .int .i64 p'.t, .slice va p'.b.length vc] 29
    have hb45 := hb4.fr hf5 (fun h => h)
    have ho45 := own_fr ho4 hf5 (fun _ _ h => h)
    have hov5 := own_fr hov hf5 (fun _ _ h => h)
    have HW5 := Lib.hid hw5
    have HR5 := Lib.hid hr5
    clear hw5 hr5 hf4 hf5 c1' hb3 hb4 ho4 hov ho3
    go_upto_region 30 with (fail)
    rw [← HW5.out, ← HR5.out]
    clear HW5 HR5
    have d0 := hb45.cell 0 rfl
    have d1 := hb45.cell 1 rfl
    have d2 := hb45.cell 2 rfl
    have e0 := hb5.cell 0 rfl
    have e1 := hb5.cell 1 rfl
    have e2 := hb5.cell 2 rfl
    go_wp2_with fail
    refine (same_any p' p' _ _ w5 (Byt.of_own ho45) (Byt.of_own hov5)).mono ?_
    rintro e w6 ⟨rfl, hf6⟩
    rw [sameB_refl]
    have T6 := T5.up hf6
    have ho6 := own_fr ho45 hf6 (fun _ _ h => h)
    have d2' := (hb45.fr hf6 (fun h => h)).cell 2 rfl
    clear d0 d1 d2 e0 e1 e2 hf6
    go_wp2_with fail
    refine (spoil_any _ p'.b w6 ho6).mono ?_
    rintro e w7 ⟨rfl, hf7⟩
    have T7 := T6.far hf7 (fun k hk => by simp only [Value.ownBlock] at hk; injection hk with hk; subst hk; exact ⟨log, nfg, ngg⟩)
    clear d2'
    go_wp2_with fail
    go_ret
    exact ⟨rfl, _, _, _, _, _, T7, fit.mono fit.sm (by omega)⟩
  | none =>
    have HA := Lib.hid ha
    clear ha
    go_wp2_with fail
    refine (look_none nb N L A F a HA.out w1 T1.st.r).mono ?_
    rintro e w2 ⟨rfl, hf2⟩
    have T2 := T1.up hf2
    have hbq2 := hb1.fr hf2 (fun h => h)
    obtain ⟨w3, r, hw3, hr, hb3, T3, nf3, ng3, lo3, hf3⟩ := T2.new #[.int .i64 0, .int .i64 0, .slice none 0 0] 29
    have hbq3 := hbq2.fr hf3 (fun h => h)
    have HW3 := Lib.hid hw3
    have HR := Lib.hid hr
    have c1' := hbq3.cell 1 rfl
    clear hw3 hr hf3 hf2 c0 c1 c2 c3 c4 c5 hb1
    go_upto_region 29 with (fail)
    rw [← HW3.out, ← HR.out]
    clear HW3 HR
    go_wp2_with fail
    refine (rlook_none mb N L P G a HA.out w3 T3.rf).mono ?_
    rintro e w4 ⟨rfl, hf4⟩
    have T4 := T3.up hf4
    have hb4 := hb3.fr hf4 (fun h => h)
    obtain ⟨w5, r5, hw5, hr5, hb5, T5, nf5, ng5, lo5, hf5⟩ := T4.new #[.int .i64 0, .int .i64 0, .slice none 0 0] 29
    have hb45 := hb4.fr hf5 (fun h => h)
    have HW5 := Lib.hid hw5
    have HR5 := Lib.hid hr5
    clear hw5 hr5 hf4 hf5 c1' hb3 hb4
    go_upto_region 30 with (fail)
    rw [← HW5.out, ← HR5.out]
    clear HW5 HR5
    have d0 := hb45.cell 0 rfl
    have d1 := hb45.cell 1 rfl
    have d2 := hb45.cell 2 rfl
    have e0 := hb5.cell 0 rfl
    have e1 := hb5.cell 1 rfl
    have e2 := hb5.cell 2 rfl
    go_wp2_with fail
    refine (same_any ⟨0, 0, []⟩ ⟨0, 0, []⟩ _ _ w5 (byt_nil _) (byt_nil _)).mono ?_
    rintro e w6 ⟨rfl, hf6⟩
    rw [sameB_refl]
    have T6 := T5.up hf6
    have d2' := (hb45.fr hf6 (fun h => h)).cell 2 rfl
    clear d0 d1 d2 e0 e1 e2 hf6
    go_wp2_with fail
    refine (spoil_any (.slice none 0 0) [] w6 (World.ownsRow_nil _ _ _ _)).mono ?_
    rintro e w7 ⟨rfl, hf7⟩
    have T7 := T6.far hf7 (fun k hk => by simp only [Value.ownBlock] at hk; cases hk)
    clear d2'
    go_wp2_with fail
    go_ret
    exact ⟨rfl, _, _, _, _, _, T7, fit.mono fit.sm (by omega)⟩
set_option maxRecDepth 100000 in
set_option maxHeartbeats 8000000 in
theorem play_part :
    Calls Try.prog 23 #[.pointer (some ⟨nb, 0, none⟩), .pointer (some ⟨mb, 0, none⟩), .agg #[.int .i64 7, .int .i64 a, .int .i64 b, .int .i64 p.f, .int .i64 p.t, s]] w (PlayPost W nb mb N (m + 1)) := by
  have hs0 := hs
  obtain ⟨sa, sc, rfl, -, -⟩ := hs0
  obtain ⟨w1, q, hw1, hq, hb1, T1, nf1, ng1, lo1, hf1⟩ := h.new #[.int .i64 7, .int .i64 a, .int .i64 b, .int .i64 p.f, .int .i64 p.t, .slice sa p.b.length sc] 46
  have HW1 := Lib.hid hw1
  have HQ := Lib.hid hq
  have hr6 := h.st.r.room
  have _u1 := hm
  have _u2 := hl
  clear _u1 _u2
  have c0 := hb1.cell 0 rfl
  have c1 := hb1.cell 1 rfl
  have c2 := hb1.cell 2 rfl
  have c3 := hb1.cell 3 rfl
  have c4 := hb1.cell 4 rfl
  have c5 := hb1.cell 5 rfl
  clear hw1 hq h
  go_enter Try.func23, Try.ntmps23
  go_upto_region 1 with (fail)
  rw [← HW1.out, ← HQ.out]
  clear HW1 HQ hf1
  have hP := fit.len
  go_wp2_with fail
  refine (part_st W.heap.size nb N L A F w1 T1.st T1.fr.size a b).mono ?_
  rintro e w2 ⟨rfl, F', hS, hM⟩
  have T2 := T1.net hS hM
  have hbq2 := hb1.fr hM.fr nf1
  have c1' := hbq2.cell 1 rfl
  have c2' := hbq2.cell 2 rfl
  generalize hz : setE N a b = z
  have HZ := Lib.hid hz
  clear hS hM c0 c1 c2 c3 c4 c5 hb1 hz
  go_wp2_with fail
  refine (rpart_any mb N L P G a b true w2 T2.rf (by omega)).mono ?_
  rintro e w4 ⟨rfl, hR, hf4⟩
  obtain ⟨G', T4, hG'⟩ := T2.ref hR hf4
  rw [HZ.out]
  clear hR hf4 hG' c1' c2'
  go_wp2_with fail
  go_ret
  exact ⟨rfl, _, _, _, _, _, T4, fit.part a b true⟩
set_option maxRecDepth 100000 in
set_option maxHeartbeats 8000000 in
theorem play_join :
    Calls Try.prog 23 #[.pointer (some ⟨nb, 0, none⟩), .pointer (some ⟨mb, 0, none⟩), .agg #[.int .i64 8, .int .i64 a, .int .i64 b, .int .i64 p.f, .int .i64 p.t, s]] w (PlayPost W nb mb N (m + 1)) := by
  have hs0 := hs
  obtain ⟨sa, sc, rfl, -, -⟩ := hs0
  obtain ⟨w1, q, hw1, hq, hb1, T1, nf1, ng1, lo1, hf1⟩ := h.new #[.int .i64 8, .int .i64 a, .int .i64 b, .int .i64 p.f, .int .i64 p.t, .slice sa p.b.length sc] 46
  have HW1 := Lib.hid hw1
  have HQ := Lib.hid hq
  have hr6 := h.st.r.room
  have _u1 := hm
  have _u2 := hl
  clear _u1 _u2
  have c0 := hb1.cell 0 rfl
  have c1 := hb1.cell 1 rfl
  have c2 := hb1.cell 2 rfl
  have c3 := hb1.cell 3 rfl
  have c4 := hb1.cell 4 rfl
  have c5 := hb1.cell 5 rfl
  clear hw1 hq h
  go_enter Try.func23, Try.ntmps23
  go_upto_region 1 with (fail)
  rw [← HW1.out, ← HQ.out]
  clear HW1 HQ hf1
  have hP := fit.len
  go_wp2_with fail
  refine (join_st W.heap.size nb N L A F w1 T1.st T1.fr.size a b).mono ?_
  rintro e w2 ⟨rfl, F', hS, hM⟩
  have T2 := T1.net hS hM
  have hbq2 := hb1.fr hM.fr nf1
  have c1' := hbq2.cell 1 rfl
  have c2' := hbq2.cell 2 rfl
  generalize hz : setE N a b = z
  have HZ := Lib.hid hz
  clear hS hM c0 c1 c2 c3 c4 c5 hb1 hz
  go_wp2_with fail
  refine (rpart_any mb N L P G a b false w2 T2.rf (by omega)).mono ?_
  rintro e w4 ⟨rfl, hR, hf4⟩
  obtain ⟨G', T4, hG'⟩ := T2.ref hR hf4
  rw [HZ.out]
  clear hR hf4 hG' c1' c2'
  go_wp2_with fail
  go_ret
  exact ⟨rfl, _, _, _, _, _, T4, fit.part a b false⟩
set_option maxRecDepth 100000 in
set_option maxHeartbeats 8000000 in
theorem play_parted (hk : k < 0 ∨ 8 < k) :
    Calls Try.prog 23 #[.pointer (some ⟨nb, 0, none⟩), .pointer (some ⟨mb, 0, none⟩), .agg #[.int .i64 k, .int .i64 a, .int .i64 b, .int .i64 p.f, .int .i64 p.t, s]] w (PlayPost W nb mb N (m + 1)) := by
  have hs0 := hs
  obtain ⟨sa, sc, rfl, -, -⟩ := hs0
  obtain ⟨w1, q, hw1, hq, hb1, T1, nf1, ng1, lo1, hf1⟩ := h.new #[.int .i64 k, .int .i64 a, .int .i64 b, .int .i64 p.f, .int .i64 p.t, .slice sa p.b.length sc] 46
  have HW1 := Lib.hid hw1
  have HQ := Lib.hid hq
  have hr6 := h.st.r.room
  have _u1 := hm
  have _u2 := hl
  clear _u1 _u2
  have c0 := hb1.cell 0 rfl
  have c1 := hb1.cell 1 rfl
  have c2 := hb1.cell 2 rfl
  have c3 := hb1.cell 3 rfl
  have c4 := hb1.cell 4 rfl
  have c5 := hb1.cell 5 rfl
  clear hw1 hq h
  have e0 : (k == 0) = false := by simp; omega
  have e1 : (k == 1) = false := by simp; omega
  have e2 : (k == 2) = false := by simp; omega
  have e3 : (k == 3) = false := by simp; omega
  have e4 : (k == 4) = false := by simp; omega
  have e5 : (k == 5) = false := by simp; omega
  have e6 : (k == 6) = false := by simp; omega
  have e7 : (k == 7) = false := by simp; omega
  have e8 : (k == 8) = false := by simp; omega
  go_enter Try.func23, Try.ntmps23
  go_upto_region 1 with (fail)
  rw [← HW1.out, ← HQ.out]
  clear HW1 HQ hf1
  have hP := fit.len
  have hap := fit.apart a b
  generalize hz : pB N A a b = z at hap
  have HZ := Lib.hid hz
  have HP := Lib.hid hap
  clear hz hap
  go_upto_region 41 with (fail)
  clear e0 e1 e2 e3 e4 e5 e6 e7 e8 c0 c3 c4 c5
  have hcells : ∀ wx, Fr (fun _ => False) w1 wx → wx.cell? ⟨q, 1, none⟩ = some (.int .i64 a) ∧ wx.cell? ⟨q, 2, none⟩ = some (.int .i64 b) := fun wx hf => ⟨hf.cell c1 (fun h => h), hf.cell c2 (fun h => h)⟩
  have HC := Lib.hid hcells
  clear hcells
  have T1d := T1.up (Fr.refl _ w1).drew
  go_region_held3 (fun wx => wx.cell? ⟨q, 1, none⟩ = some (.int .i64 a) ∧ wx.cell? ⟨q, 2, none⟩ = some (.int .i64 b) ∧ Two W wx nb mb N L A F L P G) (first | exact ⟨c1, c2, T1d⟩ | exact hS4 | exact ⟨c1, c2, T1.up ((Fr.refl _ w1).drewN _)⟩ | exact ⟨hS4.1, hS4.2.1, hS4.2.2.up ((Fr.refl _ _).drewN _)⟩)
    (first
      | (go_at_call 18
         refine (parted_any nb N L A F a b _ (St.r (Two.st (mb := mb) (M := L) (P := P) (G := G) (W := W) (by first | exact T1d | exact hS4.2.2)))).mono ?_
         rintro e w4 ⟨rfl, nq, rfl⟩
         rw [HZ.out])
      | (go_at_call 40
         refine (rparted_any mb N L P G a b _ (Two.rf (W := W) (nb := nb) (L := L) (A := A) (F := F) (by first | exact T1d | exact T1.up ((Fr.refl _ w1).drewN _))) (by omega)).mono ?_
         rintro e w4 ⟨rfl, hf4⟩
         rw [HP.out]
         have hf5 : Fr (fun _ => False) w1 w4 := ⟨hf4.os, hf4.tape.trans rfl, hf4.output, hf4.size, hf4.block⟩
         have hS4 : w4.cell? ⟨q, 1, none⟩ = some (.int .i64 a) ∧ w4.cell? ⟨q, 2, none⟩ = some (.int .i64 b) ∧ Two W w4 nb mb N L A F L P G := ⟨hf5.cell c1 (fun h => h), hf5.cell c2 (fun h => h), T1.up hf5⟩))
  all_goals
    go_wp2_with fail
    go_ret
    exact ⟨rfl, L, A, F, P, G, by first | exact hS4.2.2 | exact hS4.2.2.up ((Fr.refl _ _).drewN _), fit.mono fit.sm (by omega)⟩
end
theorem play_any (W w : World) (nb mb : Nat) (N : Int) (L : List Pk) (A : Nat → Nat → Bool) (F : Nat → Prop) (P : List (Int × Int)) (G : Nat → Prop) (m : Nat) (k a b : Int) (p : Pk) (s : Value)
    (h : Two W w nb mb N L A F L P G) (fit : Fit N L A P m) (hm : m ≤ 900) (hs : Byt W s p.b) (hl : p.b.length ≤ 3000) :
    Calls Try.prog 23 #[.pointer (some ⟨nb, 0, none⟩), .pointer (some ⟨mb, 0, none⟩), .agg #[.int .i64 k, .int .i64 a, .int .i64 b, .int .i64 p.f, .int .i64 p.t, s]] w (PlayPost W nb mb N (m + 1)) := by
  by_cases hk : k < 0 ∨ 8 < k
  · exact play_parted W w nb mb N L A F P G m k a b p s h fit hm hs hl hk
  · obtain ⟨j, rfl⟩ := Int.eq_ofNat_of_zero_le (show 0 ≤ k by omega)
    have hj : j < 9 := by omega
    match j, hj with
    | 0, _ => exact play_send0 W w nb mb N L A F P G m a b p s h fit hm hs hl
    | 1, _ => exact play_send1 W w nb mb N L A F P G m a b p s h fit hm hs hl
    | 2, _ => exact play_take W w nb mb N L A F P G m a b p s h fit hm hs hl
    | 3, _ => exact play_drop W w nb mb N L A F P G m a b p s h fit hm hs hl
    | 4, _ => exact play_twice W w nb mb N L A F P G m a b p s h fit hm hs hl
    | 5, _ => exact play_back W w nb mb N L A F P G m a b p s h fit hm hs hl
    | 6, _ => exact play_look W w nb mb N L A F P G m a b p s h fit hm hs hl
    | 7, _ => exact play_part W w nb mb N L A F P G m a b p s h fit hm hs hl
    | 8, _ => exact play_join W w nb mb N L A F P G m a b p s h fit hm hs hl
end Go.Proofs.Ytemjgllijlaejaa
