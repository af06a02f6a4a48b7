/- The bucket's methods, the program's and the reference's: what each returns and leaves, over one block of three numbers. -/
import Derived.Test.YtahjimjlialmbaaShelf
import Derived.WalkKit
import Derived.WalkSpells
import Derived.WalkLawsBesides
import Derived.BigQuiet
import Derived.Deep.QuietTactic
import Derived.Lib.Hide
namespace Go.Proofs.Ytahjimjlialmbaa
open Go.RowKit

/-- Only the blocks of X may have turned; new ones may have come. -/
structure Fr (X : Nat → Prop) (w w' : World) : Prop where
  os : w'.os = w.os
  tape : w'.tape = w.tape
  output : w'.output = w.output
  size : w.heap.size ≤ w'.heap.size
  block : ∀ k, k < w.heap.size → ¬ X k → w'.heap[k]? = w.heap[k]?

section
variable {X Y Z : Nat → Prop} {w w1 w2 : World}
theorem Fr.refl (X : Nat → Prop) (w : World) : Fr X w w := ⟨rfl, rfl, rfl, Nat.le_refl _, fun _ _ _ => rfl⟩
theorem Fr.trans (h : Fr X w w1) (k : Fr Y w1 w2) (hz : ∀ b, b < w.heap.size → X b ∨ Y b → Z b) : Fr Z w w2 :=
  ⟨k.os.trans h.os, k.tape.trans h.tape, k.output.trans h.output, Nat.le_trans h.size k.size, fun b hb hn =>
    (k.block b (Nat.lt_of_lt_of_le hb h.size) (fun hy => hn (hz b hb (.inr hy)))).trans (h.block b hb (fun hx => hn (hz b hb (.inl hx))))⟩
theorem Fr.mono (h : Fr X w w1) (hz : ∀ b, b < w.heap.size → X b → Z b) : Fr Z w w1 := ⟨h.os, h.tape, h.output, h.size, fun b hb hn => h.block b hb fun hx => hn (hz b hb hx)⟩
theorem Fr.drewN (h : Fr X w w1) (n : Nat) : Fr X w (w1.drewN n) := ⟨h.os, h.tape, h.output, h.size, h.block⟩
theorem Fr.drew (h : Fr X w w1) : Fr X w w1.drew := ⟨h.os, h.tape, h.output, h.size, h.block⟩
theorem Fr.alloc (h : Fr X w w1) (o : Obj) : Fr X w (w1.alloc o) :=
  ⟨h.os, h.tape, h.output, Nat.le_trans h.size (by simp), fun b hb hn => (Below.heap_alloc _ _ _ (Nat.lt_of_lt_of_le hb h.size)).trans (h.block b hb hn)⟩
theorem Fr.setCell (h : Fr X w w1) {p : Addr} (hp : p.block < w.heap.size → X p.block) (u : Value) : Fr X w (w1.setCell p u) :=
  ⟨h.os, h.tape, h.output, by simpa using h.size, fun b hb hn => (Below.heap_setCell _ _ _ _ (by rintro rfl; exact hn (hp hb))).trans (h.block b hb hn)⟩
theorem Fr.set1 (w : World) (b i : Nat) (u : Value) : Fr (fun k => k = b) w (w.setCell ⟨b, i, none⟩ u) := Fr.setCell (X := fun k => k = b) (Fr.refl _ w) (p := ⟨b, i, none⟩) (fun _ => rfl) u
theorem Fr.below {B : Nat} (h : Fr (fun k => B ≤ k) w w1) (hB : B ≤ w.heap.size) : Below B w w1 :=
  ⟨h.os, h.tape, h.output, h.size, fun k hk => h.block k (by omega) (by omega)⟩
end

/-- Block b holds three numbers. -/
def Bk (T : TypeId) (w : World) (b : Nat) (r s l : Int) : Prop := w.heap[b]? = some (.cells #[.int .i64 r, .int .i64 s, .int .i64 l] T (0, 0))

section
variable {T : TypeId} {w w' : World} {b : Nat} {r s l : Int} {X : Nat → Prop}
theorem Bk.lt (h : Bk T w b r s l) : b < w.heap.size := by
  rcases Nat.lt_or_ge b w.heap.size with hlt | hge
  · exact hlt
  · unfold Bk at h; rw [Array.getElem?_eq_none hge] at h; cases h
theorem Bk.c0 (h : Bk T w b r s l) : w.cell? ⟨b, 0, none⟩ = some (.int .i64 r) := by unfold Bk at h; simp [World.cell?, h]
theorem Bk.c1 (h : Bk T w b r s l) : w.cell? ⟨b, 1, none⟩ = some (.int .i64 s) := by unfold Bk at h; simp [World.cell?, h]
theorem Bk.c2 (h : Bk T w b r s l) : w.cell? ⟨b, 2, none⟩ = some (.int .i64 l) := by unfold Bk at h; simp [World.cell?, h]
theorem Bk.f2 (h : Bk T w b r s l) : w.frozen? ⟨b, 2, none⟩ = false := by unfold Bk at h; simp [World.frozen?, h]
theorem Bk.set2 (h : Bk T w b r s l) (m : Int) : Bk T (w.setCell ⟨b, 2, none⟩ (.int .i64 m)) b r s m := by
  unfold Bk at h ⊢; simp [World.setCell, Array.getElem?_modify, h]
theorem Bk.drewN (h : Bk T w b r s l) (n : Nat) : Bk T (w.drewN n) b r s l := h
theorem Bk.drew (h : Bk T w b r s l) : Bk T w.drew b r s l := h
theorem Bk.fr (h : Bk T w b r s l) (hf : Fr X w w') (hx : ¬ X b) : Bk T w' b r s l := (hf.block b h.lt hx).trans h
theorem Bk.new (T : TypeId) (w : World) (r s l : Int) : Bk T (w.alloc (.cells #[.int .i64 r, .int .i64 s, .int .i64 l] T)) w.heap.size r s l := by
  show (w.heap.push _)[w.heap.size]? = _; simp
end

/-- The state that New makes and all keep. -/
def Ok3 (r s l : Int) : Prop := 0 ≤ r ∧ r ≤ 1000000 ∧ 1 ≤ s ∧ s ≤ 1000000 ∧ 0 ≤ l ∧ l ≤ s

def tickL (r s l t : Int) : Int := if 1 ≤ t then min s (l + t * r) else l
def takeB (l n : Int) : Bool := decide (1 ≤ n ∧ n ≤ l)
def takeL (l n : Int) : Int := if 1 ≤ n ∧ n ≤ l then l - n else l
def waitV (r s l n : Int) : Int := if n < 1 ∨ s < n then -1 else if n ≤ l then 0 else if r = 0 then -1 else (n - l + r - 1) / r

theorem tick_small (r s l t : Int) (ho : Ok3 r s l) : tickL r s l t ≤ s := by
  obtain ⟨_, _, _, _, _, _⟩ := ho; unfold tickL; split <;> omega

theorem mul_hi (r t : Int) (h0 : 0 ≤ r) (h1 : 1 ≤ t) : 0 ≤ t * r := Int.mul_nonneg (by omega) h0

theorem level_any (b : Nat) (r s l : Int) (w : World) (h : Bk 46 w b r s l) :
    Calls Try.prog 16 #[.pointer (some ⟨b, 0, none⟩)] w fun e w' => e = .returned (.int .i64 l) ∧ w = w' := by
  have := h.c2
  go_enter Try.func16, Try.ntmps16
  go_wp2
  go_ret
  exact ⟨rfl, rfl⟩
theorem level_nil (w : World) : Calls Try.prog 16 #[.pointer none] w fun e w' => e = .returned (.int .i64 0) ∧ w = w' := by
  go_enter Try.func16, Try.ntmps16
  go_wp2
  go_ret
  exact ⟨rfl, rfl⟩

set_option maxHeartbeats 400000 in
theorem take_any (b : Nat) (r s l n : Int) (w : World) (h : Bk 46 w b r s l) (ho : Ok3 r s l) (hn : -9223372036854775808 ≤ n ∧ n ≤ 9223372036854775807) :
    Calls Try.prog 14 #[.pointer (some ⟨b, 0, none⟩), .int .i64 n] w fun e w' => e = .returned (.bool (takeB l n)) ∧ Bk 46 w' b r s (takeL l n) ∧ Fr (· = b) w w' := by
  have h2 := h.c2
  have hf := h.f2
  obtain ⟨_, _, _, _, _, _⟩ := ho
  by_cases h1 : n < 1
  · have e1 : takeB l n = false := by unfold takeB; simp; omega
    have e2 : takeL l n = l := by unfold takeL; rw [if_neg (by omega)]
    rw [e1, e2]; clear e1 e2
    go_enter Try.func14, Try.ntmps14
    go_wp2
    go_ret
    exact ⟨rfl, h, Fr.refl _ _⟩
  · by_cases h3 : l < n
    · have e1 : takeB l n = false := by unfold takeB; simp; omega
      have e2 : takeL l n = l := by unfold takeL; rw [if_neg (by omega)]
      rw [e1, e2]; clear e1 e2
      go_enter Try.func14, Try.ntmps14
      go_wp2
      go_ret
      exact ⟨rfl, h, Fr.refl _ _⟩
    · have e1 : takeB l n = true := by unfold takeB; simp; omega
      have e2 : takeL l n = l - n := by unfold takeL; rw [if_pos (by omega)]
      rw [e1, e2]; clear e1 e2
      go_enter Try.func14, Try.ntmps14
      go_wp2
      go_ret
      exact ⟨rfl, h.set2 _, Fr.set1 _ _ _ _⟩

set_option maxHeartbeats 400000 in
theorem wait_any (b : Nat) (r s l n : Int) (w : World) (h : Bk 46 w b r s l) (ho : Ok3 r s l) (hn : -9223372036854775808 ≤ n ∧ n ≤ 9223372036854775807) :
    Calls Try.prog 17 #[.pointer (some ⟨b, 0, none⟩), .int .i64 n] w fun e w' => e = .returned (.int .i64 (waitV r s l n)) ∧ ∃ q, w' = w.drewN q := by
  have c0 := h.c0
  have c1 := h.c1
  have c2 := h.c2
  obtain ⟨_, _, _, _, _, _⟩ := ho
  by_cases h1 : n < 1
  · have e1 : waitV r s l n = -1 := by unfold waitV; rw [if_pos (by omega)]
    rw [e1]; clear e1
    go_enter Try.func17, Try.ntmps17
    go_wp2
    go_ret
    exact ⟨rfl, 0, rfl⟩
  by_cases h3 : s < n
  · have e1 : waitV r s l n = -1 := by unfold waitV; rw [if_pos (by omega)]
    rw [e1]; clear e1
    go_enter Try.func17, Try.ntmps17
    go_wp2
    go_ret
    exact ⟨rfl, 0, rfl⟩
  by_cases h4 : n ≤ l
  · have e1 : waitV r s l n = 0 := by unfold waitV; rw [if_neg (by omega), if_pos h4]
    rw [e1]; clear e1
    go_enter Try.func17, Try.ntmps17
    go_wp2
    go_ret
    exact ⟨rfl, 0, rfl⟩
  by_cases h5 : r = 0
  · have e1 : waitV r s l n = -1 := by unfold waitV; rw [if_neg (by omega), if_neg h4, if_pos h5]
    rw [e1]; clear e1
    subst h5
    go_enter Try.func17, Try.ntmps17
    go_wp2
    go_ret
    exact ⟨rfl, 0, rfl⟩
  · have e1 : waitV r s l n = (n - l + r - 1) / r := by unfold waitV; rw [if_neg (by omega), if_neg h4, if_neg h5]
    rw [e1]; clear e1
    have h6 : (r == 0) = false := by simpa using h5
    have h7 : 1 ≤ r := by omega
    have hl := Int.ediv_nonneg (a := n - l + r - 1) (b := r) (by omega) (by omega)
    have hu : (n - l + r - 1) / r ≤ n - l + r - 1 := Int.ediv_le_self _ (by omega)
    go_enter Try.func17, Try.ntmps17
    go_wp2
    go_quiet (fail)
    go_wp2
    go_ret
    exact ⟨rfl, _, rfl⟩


/-- Mul64, over Int. -/
theorem mul64 (x y : Int) (hx : 0 ≤ x) (hx' : x < 18446744073709551616) (hy : 0 ≤ y) (hy' : y < 18446744073709551616) (w : World) :
    Calls Try.prog 21 #[.int .u64 x, .int .u64 y] w fun e w' => e = .returned (.tuple #[.int .u64 (x * y / 18446744073709551616), .int .u64 (x * y % 18446744073709551616)]) ∧ w = w' := by
  obtain ⟨x, rfl⟩ := Int.eq_ofNat_of_zero_le hx
  obtain ⟨y, rfl⟩ := Int.eq_ofNat_of_zero_le hy
  refine (Try.bits_Mul64 x y (by omega) (by omega) w).mono ?_
  rintro e w' ⟨rfl, rfl⟩
  exact ⟨by simp, rfl⟩

set_option maxHeartbeats 800000 in
theorem tick_any (b : Nat) (r s l t : Int) (w : World) (h : Bk 46 w b r s l) (ho : Ok3 r s l) (hn : -9223372036854775808 ≤ t ∧ t ≤ 9223372036854775807) :
    Calls Try.prog 12 #[.pointer (some ⟨b, 0, none⟩), .int .i64 t] w fun e w' => e = .returned (.tuple #[]) ∧ Bk 46 w' b r s (tickL r s l t) ∧ Fr (fun k => k = b) w w' := by
  have c0 := h.c0
  have c1 := h.c1
  have c2 := h.c2
  have f2 := h.f2
  obtain ⟨_, _, _, _, _, _⟩ := ho
  by_cases h1 : t < 1
  · have e1 : tickL r s l t = l := by unfold tickL; rw [if_neg (by omega)]
    rw [e1]; clear e1
    go_enter Try.func12, Try.ntmps12
    go_wp2
    refine bodyPost_ret (results_none rfl _ _ _) rfl ?_
    exact ⟨rfl, h, Fr.refl _ _⟩
  · have hm := mul_hi r t (by omega) (by omega)
    have e1 : tickL r s l t = min s (l + t * r) := by unfold tickL; rw [if_pos (by omega)]
    rw [e1]; clear e1
    obtain ⟨m, hm'⟩ : ∃ m, m = t * r := ⟨_, rfl⟩
    rw [← hm'] at hm ⊢
    by_cases h3 : m / 18446744073709551616 > 0
    · rw [show min s (l + m) = s by omega]
      go_enter Try.func12, Try.ntmps12
      go_wp2_with fail
      refine (mul64 _ _ (by omega) (by omega) (by omega) (by omega) _).mono ?_
      rintro e w' ⟨rfl, rfl⟩
      rw [← hm']; clear hm'
      go_wp2
      go_region
      go_wp2
      go_end0
      exact ⟨rfl, (h.set2 _).drew, (Fr.set1 _ _ _ _).drew⟩
    · have h0 : m / 18446744073709551616 = 0 := by omega
      have h4 : m % 18446744073709551616 = m := by omega
      by_cases h5 : m > s
      · rw [show min s (l + m) = s by omega]
        go_enter Try.func12, Try.ntmps12
        go_wp2_with fail
        refine (mul64 _ _ (by omega) (by omega) (by omega) (by omega) _).mono ?_
        rintro e w' ⟨rfl, rfl⟩
        rw [← hm', h0, h4]; clear hm' h0 h4
        go_wp2
        go_region
        go_wp2
        go_end0
        exact ⟨rfl, (h.set2 _).drew, (Fr.set1 _ _ _ _).drew⟩
      · have hb := h
        clear h
        by_cases h6 : l + m < s
        · rw [show min s (l + m) = l + m by omega]
          go_enter Try.func12, Try.ntmps12
          go_wp2_with fail
          refine (mul64 _ _ (by omega) (by omega) (by omega) (by omega) _).mono ?_
          rintro e w' ⟨rfl, rfl⟩
          rw [← hm', h0, h4]; clear hm' h0 h4
          go_wp2
          go_region
          go_wp2
          go_end0
          exact ⟨rfl, (hb.set2 _).drew, (Fr.set1 _ _ _ _).drew⟩
        · rw [show min s (l + m) = s by omega]
          go_enter Try.func12, Try.ntmps12
          go_wp2_with fail
          refine (mul64 _ _ (by omega) (by omega) (by omega) (by omega) _).mono ?_
          rintro e w' ⟨rfl, rfl⟩
          rw [← hm', h0, h4]; clear hm' h0 h4
          go_wp2
          go_region
          go_wp2
          go_end0
          exact ⟨rfl, (hb.set2 _).drew, (Fr.set1 _ _ _ _).drew⟩

end Go.Proofs.Ytahjimjlialmbaa
