/- The chapter's examples ('known'): they return true and write nothing that was there. -/
import Derived.Test.YtahjimjlialmbaaFour
namespace Go.Proofs.Ytahjimjlialmbaa
open Go.RowKit

section
variable {X : Nat → Prop} {w w1 w2 : World}
theorem Fr.tr (h : Fr X w w1) (k : Fr X w1 w2) : Fr X w w2 := h.trans k fun _ _ h => h.elim id id
theorem Fr.up {B b : Nat} (h : Fr (fun k => k = b) w w1) (hB : B ≤ b) : Fr (fun k => B ≤ k) w w1 := h.mono fun k _ e => by subst e; exact hB
theorem Fr.new (w : World) (o : Obj) : Fr X w (w.alloc o) := (Fr.refl X w).alloc o
end

theorem new_ok (r s : Int) (w : World) (ho : Ok3 r s s) (B : Nat) (hB : B ≤ w.heap.size) : Calls Try.prog 9 #[.int .i64 r, .int .i64 s] w fun e w' =>
    ∃ b, B ≤ b ∧ b = w.heap.size ∧ e = .returned (.tuple #[.pointer (some ⟨b, 0, none⟩), .int .i64 0]) ∧ Bk 46 w' b r s s ∧ Fr (fun k => B ≤ k) w w' :=
  (new_any r s w).mono fun e w' h => by
    rcases h with ⟨_, rfl, rfl⟩ | ⟨h, _⟩
    · exact ⟨_, hB, rfl, rfl, Bk.new _ _ _ _ _, Fr.new _ _⟩
    · exact absurd ho h
theorem new_bad (r s : Int) (w : World) (ho : ¬ Ok3 r s s) : Calls Try.prog 9 #[.int .i64 r, .int .i64 s] w fun e w' =>
    e = .returned (.tuple #[.pointer none, .int .i64 2]) ∧ w = w' :=
  (new_any r s w).mono fun e w' h => by
    rcases h with ⟨h, _⟩ | ⟨_, rfl, rfl⟩
    · exact absurd h ho
    · exact ⟨rfl, rfl⟩
theorem rnew_ok (r s : Int) (w : World) (ho : Ok3 r s s) (B : Nat) (hB : B ≤ w.heap.size) : Calls Try.prog 10 #[.int .i64 r, .int .i64 s] w fun e w' =>
    ∃ b, B ≤ b ∧ b = w.heap.size ∧ e = .returned (.tuple #[.pointer (some ⟨b, 0, none⟩), .int .i64 0]) ∧ Bk 35 w' b r s s ∧ Fr (fun k => B ≤ k) w w' :=
  (rnew_any r s w).mono fun e w' h => by
    rcases h with ⟨_, rfl, rfl⟩ | ⟨h, _⟩
    · exact ⟨_, hB, rfl, rfl, Bk.new _ _ _ _ _, Fr.new _ _⟩
    · exact absurd ho h
theorem rnew_bad (r s : Int) (w : World) (ho : ¬ Ok3 r s s) : Calls Try.prog 10 #[.int .i64 r, .int .i64 s] w fun e w' =>
    e = .returned (.tuple #[.pointer none, .int .i64 2]) ∧ w = w' :=
  (rnew_any r s w).mono fun e w' h => by
    rcases h with ⟨h, _⟩ | ⟨_, rfl, rfl⟩
    · exact absurd h ho
    · exact ⟨rfl, rfl⟩

theorem level_q (b : Nat) (r s l : Int) (w : World) (h : Bk 46 w b r s l) :
    Calls Try.prog 16 #[.pointer (some ⟨b, 0, none⟩)] w fun e w' => e = .returned (.int .i64 l) ∧ ∃ q, w' = w.drewN q :=
  (level_any b r s l w h).mono fun _ _ ⟨e, h⟩ => ⟨e, 0, h.symm⟩
theorem back_q (base most tries own : Int) (w : World) (hb' : -9223372036854775808 ≤ base ∧ base ≤ 9223372036854775807) (hm : -9223372036854775808 ≤ most ∧ most ≤ 9223372036854775807) (ht' : -9223372036854775808 ≤ tries ∧ tries ≤ 9223372036854775807)
    (ho : 0 ≤ own ∧ own < 18446744073709551616) :
    Calls Try.prog 19 #[.int .i64 base, .int .i64 most, .int .i64 tries, .int .u64 own] w fun e w' => e = .returned (.int .i64 (backV base most tries own)) ∧ ∃ q, w' = w.drewN q :=
  (back_any base most tries own w hb' hm ht' ho).mono fun _ _ ⟨e, h⟩ => ⟨e, 0, h.symm⟩
theorem rback_q (base most tries own : Int) (w : World) (hb' : -9223372036854775808 ≤ base ∧ base ≤ 9223372036854775807) (hm : -9223372036854775808 ≤ most ∧ most ≤ 9223372036854775807) (ht' : -9223372036854775808 ≤ tries ∧ tries ≤ 9223372036854775807)
    (ho : 0 ≤ own ∧ own < 18446744073709551616) :
    Calls Try.prog 20 #[.int .i64 base, .int .i64 most, .int .i64 tries, .int .u64 own] w fun e w' => e = .returned (.int .i64 (backV base most tries own)) ∧ ∃ q, w' = w.drewN q :=
  (rback_any base most tries own w hb' hm ht' ho).mono fun _ _ ⟨e, h⟩ => ⟨e, 0, h.symm⟩

set_option maxHeartbeats 1000000 in
theorem known_any (w : World) : Calls Try.prog 11 #[] w fun e w' => e = .returned (.bool true) ∧ Below w.heap.size w w' := by
  go_enter Try.func11, Try.ntmps11
  go_wp2_with fail
  refine (new_ok 3 10 w (by unfold Ok3; omega) w.heap.size (Nat.le_refl _)).mono ?_
  rintro e w1 ⟨b, hB, -, rfl, hb, hf1⟩
  go_wp2_with fail
  refine (take_any b 3 10 10 10 w1 hb (by unfold Ok3; omega) (by omega)).mono ?_
  rintro e w2 ⟨rfl, hb, hf2⟩
  rw [show takeB 10 10 = true by rfl]
  rw [show takeL 10 10 = 0 by rfl] at hb
  go_wp2_with fail
  refine (take_any b 3 10 0 1 w2 hb (by unfold Ok3; omega) (by omega)).mono ?_
  rintro e w3 ⟨rfl, hb, hf3⟩
  rw [show takeB 0 1 = false by rfl]
  rw [show takeL 0 1 = 0 by rfl] at hb
  go_wp2_with fail
  refine (wait_any b 3 10 0 7 w3 hb (by unfold Ok3; omega) (by omega)).mono ?_
  rintro e w4 ⟨rfl, q, rfl⟩
  rw [show waitV 3 10 0 7 = 3 by rfl]
  have hb := hb.drewN q
  go_wp2_with fail
  refine (tick_any b 3 10 0 3 _ hb (by unfold Ok3; omega) (by omega)).mono ?_
  rintro e w5 ⟨rfl, hb, hf5⟩
  rw [show tickL 3 10 0 3 = 9 by rfl] at hb
  go_wp2_with fail
  refine (level_any b 3 10 9 w5 hb).mono ?_
  rintro e w6 ⟨rfl, rfl⟩
  go_wp2_with fail
  refine (take_any b 3 10 9 7 w5 hb (by unfold Ok3; omega) (by omega)).mono ?_
  rintro e w6 ⟨rfl, hb, hf6⟩
  rw [show takeB 9 7 = true by rfl]
  rw [show takeL 9 7 = 2 by rfl] at hb
  go_wp2_with fail
  refine (tick_any b 3 10 2 5 w6 hb (by unfold Ok3; omega) (by omega)).mono ?_
  rintro e w7 ⟨rfl, hb, hf7⟩
  rw [show tickL 3 10 2 5 = 10 by rfl] at hb
  go_wp2_with fail
  refine (new_bad 0 0 w7 (by unfold Ok3; omega)).mono ?_
  rintro e w8 ⟨rfl, rfl⟩
  go_wp2_with fail
  refine (level_any b 3 10 10 w7 hb).mono ?_
  rintro e w8 ⟨rfl, rfl⟩
  go_wp2_with fail
  refine (back_any 4 100 3 5 w7 (by omega) (by omega) (by omega) (by omega)).mono ?_
  rintro e w8 ⟨rfl, rfl⟩
  rw [show backV 4 100 3 5 = 13 by rfl]
  go_wp2_with fail
  go_ret
  exact ⟨rfl, ((((((hf1.tr (hf2.up hB)).tr (hf3.up hB)).drewN q).tr (hf5.up hB)).tr (hf6.up hB)).tr (hf7.up hB)).below (Nat.le_refl _)⟩

end Go.Proofs.Ytahjimjlialmbaa
