/- The reference's methods of the bucket, and New of both. -/
import Derived.Test.YtahjimjlialmbaaOne
namespace Go.Proofs.Ytahjimjlialmbaa
open Go.RowKit

/-- The reference's Tick. -/
def rtickL (r s l t : Int) : Int := min s (if 1 ≤ min t 1000000 then l + min t 1000000 * r else l)

set_option maxHeartbeats 800000 in
theorem rtick_big (b : Nat) (r s l t : Int) (w : World) (hb : Bk 35 w b r s l) (ho : Ok3 r s l) (hn : 1000000 < t ∧ t ≤ 9223372036854775807) :
    Calls Try.prog 13 #[.pointer (some ⟨b, 0, none⟩), .int .i64 t] w fun e w' => e = .returned (.tuple #[]) ∧ Bk 35 w' b r s (min s (l + 1000000 * r)) ∧ Fr (fun k => k = b) w w' := by
  have c0 := hb.c0
  have c1 := hb.c1
  have c2 := hb.c2
  have f2 := hb.f2
  obtain ⟨_, _, _, _, _, _⟩ := ho
  obtain ⟨h2, h2'⟩ := hn
  by_cases h5 : s < l + 1000000 * r
  · rw [show min s (l + 1000000 * r) = s by omega]
    go_enter Try.func13, Try.ntmps13
    go_wp2
    go_region
    go_wp2
    go_quiet (fail)
    go_wp2
    go_end0
    exact ⟨rfl, ((hb.set2 _).drewN _).set2 _, ((Fr.set1 _ _ _ _).drewN _).setCell (p := ⟨b, 2, none⟩) (fun _ => rfl) _⟩
  · rw [show min s (l + 1000000 * r) = l + 1000000 * r by omega]
    go_enter Try.func13, Try.ntmps13
    go_wp2
    go_region
    go_wp2
    go_quiet (fail)
    go_wp2
    go_end0
    exact ⟨rfl, ((hb.set2 _).drew.drewN _), ((Fr.set1 _ _ _ _).drew.drewN _)⟩

set_option maxHeartbeats 800000 in
theorem rtick_small (b : Nat) (r s l t m : Int) (w : World) (hb : Bk 35 w b r s l) (ho : Ok3 r s l) (hn : 1 ≤ t ∧ t ≤ 1000000) (hm : t * r = m) (hm0 : 0 ≤ m ∧ m ≤ 1000000000000) :
    Calls Try.prog 13 #[.pointer (some ⟨b, 0, none⟩), .int .i64 t] w fun e w' => e = .returned (.tuple #[]) ∧ Bk 35 w' b r s (min s (l + m)) ∧ Fr (fun k => k = b) w w' := by
  have c0 := hb.c0
  have c1 := hb.c1
  have c2 := hb.c2
  have f2 := hb.f2
  obtain ⟨_, _, _, _, _, _⟩ := ho
  obtain ⟨h2, h2'⟩ := hn
  obtain ⟨_, _⟩ := hm0
  by_cases h5 : s < l + m
  · rw [show min s (l + m) = s by omega]
    go_enter Try.func13, Try.ntmps13
    go_wp2
    go_region
    go_wp2
    go_quiet (fail)
    go_wp2
    go_end0
    exact ⟨rfl, ((hb.set2 _).drewN _).set2 _, ((Fr.set1 _ _ _ _).drewN _).setCell (p := ⟨b, 2, none⟩) (fun _ => rfl) _⟩
  · rw [show min s (l + m) = l + m by omega]
    go_enter Try.func13, Try.ntmps13
    go_wp2
    go_region
    go_wp2
    go_quiet (fail)
    go_wp2
    go_end0
    exact ⟨rfl, ((hb.set2 _).drew.drewN _), ((Fr.set1 _ _ _ _).drew.drewN _)⟩

theorem rtick_any (b : Nat) (r s l t : Int) (w : World) (hb : Bk 35 w b r s l) (ho : Ok3 r s l) (hn : -9223372036854775808 ≤ t ∧ t ≤ 9223372036854775807) :
    Calls Try.prog 13 #[.pointer (some ⟨b, 0, none⟩), .int .i64 t] w fun e w' => e = .returned (.tuple #[]) ∧ Bk 35 w' b r s (rtickL r s l t) ∧ Fr (fun k => k = b) w w' := by
  by_cases h1 : t < 1
  · have c0 := hb.c0
    have c1 := hb.c1
    have c2 := hb.c2
    have f2 := hb.f2
    obtain ⟨_, _, _, _, _, _⟩ := ho
    have e1 : rtickL r s l t = l := by unfold rtickL; rw [if_neg (by omega)]; omega
    rw [e1]; clear e1
    go_enter Try.func13, Try.ntmps13
    go_wp2
    go_quiet (fail)
    go_wp2
    go_end0
    exact ⟨rfl, hb.drewN _, (Fr.refl _ _).drewN _⟩
  · have ho' := ho
    obtain ⟨_, _, _, _, _, _⟩ := ho'
    by_cases h2 : 1000000 < t
    · have e1 : rtickL r s l t = min s (l + 1000000 * r) := by unfold rtickL; rw [show min t 1000000 = 1000000 by omega, if_pos (by omega)]
      rw [e1]
      exact rtick_big b r s l t w hb ho ⟨h2, hn.2⟩
    · have e1 : rtickL r s l t = min s (l + t * r) := by unfold rtickL; rw [show min t 1000000 = t by omega, if_pos (by omega)]
      rw [e1]
      exact rtick_small b r s l t (t * r) w hb ho ⟨by omega, by omega⟩ rfl ⟨mul_hi r t (by omega) (by omega), by
        have : t * r ≤ 1000000 * 1000000 := Int.mul_le_mul (by omega) (by omega) (by omega) (by omega)
        omega⟩

set_option maxHeartbeats 400000 in
theorem rtake_any (b : Nat) (r s l n : Int) (w : World) (hb : Bk 35 w b r s l) (ho : Ok3 r s l) (hn : -9223372036854775808 ≤ n ∧ n ≤ 9223372036854775807) :
    Calls Try.prog 15 #[.pointer (some ⟨b, 0, none⟩), .int .i64 n] w fun e w' => e = .returned (.bool (takeB l n)) ∧ Bk 35 w' b r s (takeL l n) ∧ Fr (fun k => k = b) w w' := by
  have h2 := hb.c2
  have hf := hb.f2
  obtain ⟨_, _, _, _, _, _⟩ := ho
  by_cases h1 : n < 1
  · have e1 : takeB l n = false := by unfold takeB; simp; omega
    have e2 : takeL l n = l := by unfold takeL; rw [if_neg (by omega)]
    rw [e1, e2]; clear e1 e2
    go_enter Try.func15, Try.ntmps15
    go_wp2
    go_ret
    exact ⟨rfl, hb, Fr.refl _ _⟩
  · by_cases h3 : l < n
    · have e1 : takeB l n = false := by unfold takeB; simp; omega
      have e2 : takeL l n = l := by unfold takeL; rw [if_neg (by omega)]
      rw [e1, e2]; clear e1 e2
      go_enter Try.func15, Try.ntmps15
      go_wp2
      go_ret
      exact ⟨rfl, hb, Fr.refl _ _⟩
    · have e1 : takeB l n = true := by unfold takeB; simp; omega
      have e2 : takeL l n = l - n := by unfold takeL; rw [if_pos (by omega)]
      rw [e1, e2]; clear e1 e2
      go_enter Try.func15, Try.ntmps15
      go_wp2
      go_ret
      exact ⟨rfl, hb.set2 _, Fr.set1 _ _ _ _⟩

set_option maxHeartbeats 400000 in
theorem new_any (r s : Int) (w : World) : Calls Try.prog 9 #[.int .i64 r, .int .i64 s] w fun e w' =>
    (Ok3 r s s ∧ e = .returned (.tuple #[.pointer (some ⟨w.heap.size, 0, none⟩), .int .i64 0]) ∧ w' = w.alloc (.cells #[.int .i64 r, .int .i64 s, .int .i64 s] 46)) ∨
    (¬ Ok3 r s s ∧ e = .returned (.tuple #[.pointer none, .int .i64 2]) ∧ w' = w) := by
  by_cases ho : Ok3 r s s
  · have ho' := ho
    obtain ⟨_, _, _, _, _, _⟩ := ho'
    have H := Lib.hid ho
    clear ho
    go_enter Try.func9, Try.ntmps9
    go_wp2
    go_ret2
    exact .inl ⟨H.out, rfl, rfl⟩
  · have H := Lib.hid ho
    clear ho
    by_cases h1 : r < 0
    · go_enter Try.func9, Try.ntmps9
      go_wp2
      go_ret2
      exact .inr ⟨H.out, rfl, rfl⟩
    by_cases h2 : 1000000 < r
    · go_enter Try.func9, Try.ntmps9
      go_wp2
      go_ret2
      exact .inr ⟨H.out, rfl, rfl⟩
    by_cases h3 : s < 1
    · go_enter Try.func9, Try.ntmps9
      go_wp2
      go_ret2
      exact .inr ⟨H.out, rfl, rfl⟩
    by_cases h4 : 1000000 < s
    · go_enter Try.func9, Try.ntmps9
      go_wp2
      go_ret2
      exact .inr ⟨H.out, rfl, rfl⟩
    · exact absurd (show Ok3 r s s by unfold Ok3; omega) H.out

set_option maxHeartbeats 400000 in
theorem rnew_any (r s : Int) (w : World) : Calls Try.prog 10 #[.int .i64 r, .int .i64 s] w fun e w' =>
    (Ok3 r s s ∧ e = .returned (.tuple #[.pointer (some ⟨w.heap.size, 0, none⟩), .int .i64 0]) ∧ w' = w.alloc (.cells #[.int .i64 r, .int .i64 s, .int .i64 s] 35)) ∨
    (¬ Ok3 r s s ∧ e = .returned (.tuple #[.pointer none, .int .i64 2]) ∧ w' = w) := by
  by_cases ho : Ok3 r s s
  · have ho' := ho
    obtain ⟨_, _, _, _, _, _⟩ := ho'
    have H := Lib.hid ho
    clear ho
    go_enter Try.func10, Try.ntmps10
    go_wp2
    go_ret2
    exact .inl ⟨H.out, rfl, rfl⟩
  · have H := Lib.hid ho
    clear ho
    by_cases h1 : r < 0
    · go_enter Try.func10, Try.ntmps10
      go_wp2
      go_ret2
      exact .inr ⟨H.out, rfl, rfl⟩
    by_cases h2 : 1000000 < r
    · go_enter Try.func10, Try.ntmps10
      go_wp2
      go_ret2
      exact .inr ⟨H.out, rfl, rfl⟩
    by_cases h3 : s < 1
    · go_enter Try.func10, Try.ntmps10
      go_wp2
      go_ret2
      exact .inr ⟨H.out, rfl, rfl⟩
    by_cases h4 : 1000000 < s
    · go_enter Try.func10, Try.ntmps10
      go_wp2
      go_ret2
      exact .inr ⟨H.out, rfl, rfl⟩
    · exact absurd (show Ok3 r s s by unfold Ok3; omega) H.out

/-- What the search by halves holds: D is the most k with k * r below d. -/
def Halves (D k st : Int) : Prop := 0 ≤ k ∧ ((st = 0 ∧ k = D) ∨ ∃ j : Nat, j ≤ 20 ∧ st = 2 ^ j ∧ k ≤ D ∧ D < k + 2 * st)
theorem halves_start (D : Int) (h0 : 0 ≤ D) (h1 : D < 2097152) : Halves D 0 1048576 := ⟨by omega, .inr ⟨20, by omega, by decide, h0, by omega⟩⟩
theorem halves_half {D k st : Int} (j : Nat) (hj : j ≤ 20) (h0 : 0 ≤ k) (hst : st = 2 ^ j) (h1 : k ≤ D) (h2 : D < k + st) : Halves D k (st / 2) := by
  refine ⟨h0, ?_⟩
  cases j with
  | zero => left; subst hst; simp at h2 ⊢; omega
  | succ j =>
    right
    refine ⟨j, by omega, ?_, h1, ?_⟩
    · rw [hst, Int.pow_succ]; omega
    · have : st = 2 ^ j * 2 := by rw [hst, Int.pow_succ]
      omega
theorem two_pow_bd (j : Nat) (hj : j ≤ 20) : (1 : Int) ≤ 2 ^ j ∧ (2 : Int) ^ j ≤ 1048576 := by
  have h1 : (2 : Nat) ^ j ≤ 2 ^ 20 := Nat.pow_le_pow_right (by omega) hj
  have h2 : 1 ≤ (2 : Nat) ^ j := Nat.one_le_two_pow
  have e : ((2 ^ j : Nat) : Int) = (2 : Int) ^ j := by simp
  omega
theorem wait_fin (r d : Int) (hr : 1 ≤ r) : (d - 1) / r + 1 = (d + r - 1) / r := by
  rw [show d + r - 1 = (d - 1) + r * 1 by omega, Int.add_mul_ediv_left _ _ (by omega)]
end Go.Proofs.Ytahjimjlialmbaa
