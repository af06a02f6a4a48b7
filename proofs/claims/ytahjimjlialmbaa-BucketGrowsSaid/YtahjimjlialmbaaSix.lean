/- The walk of BucketDoes, of BucketBacks. -/
import Derived.Test.YtahjimjlialmbaaFive
import Derived.OpenShut
import Derived.Deep.LoopGhost
namespace Go.Proofs.Ytahjimjlialmbaa
open Go.RowKit

def i64 (n : Int) : Prop := -9223372036854775808 ≤ n ∧ n ≤ 9223372036854775807
theorem i64_of {n : Int} (h : (Lit.int .i64 n).wf = true) : i64 n := by
  simp [Lit.wf, IntKind.min, IntKind.max, IntKind.signed, IntKind.bits] at h; exact ⟨by omega, by omega⟩
theorem u64_of {n : Int} (h : (Lit.int .u64 n).wf = true) : 0 ≤ n ∧ n < 18446744073709551616 := by
  simp [Lit.wf, IntKind.min, IntKind.max, IntKind.signed, IntKind.bits] at h; exact ⟨by omega, by omega⟩

/-- What the walk is told of a slice of numbers. -/
def Nums (w : World) (a : Option Addr) (len : Nat) (zs : List Int) : Prop :=
  0 < len → ∃ b off, a = some ⟨b, off, none⟩ ∧ b < w.heap.size ∧ ∀ i, i < len → w.cell? ⟨b, off + i, none⟩ = some (.int .i64 (zs.getD i 0)) ∧ i64 (zs.getD i 0)

theorem takes_ok {r s l : Int} (h : Ok3 r s l) (n : Int) : Ok3 r s (takeL l n) := by
  obtain ⟨_, _, _, _, _, _⟩ := h; unfold Ok3 takeL; split <;> omega
theorem ticks_ok {r s l : Int} (h : Ok3 r s l) (t : Int) : Ok3 r s (tickL r s l t) := by
  obtain ⟨_, _, _, _, _, _⟩ := h
  unfold Ok3 tickL
  split
  · have := mul_hi r t (by omega) (by omega)
    omega
  · omega
theorem rtick_eq {r s l : Int} (h : Ok3 r s l) (t : Int) : rtickL r s l t = tickL r s l t := by
  obtain ⟨_, _, _, _, _, _⟩ := h
  unfold rtickL tickL
  by_cases h1 : 1 ≤ t
  · rw [if_pos (by omega), if_pos h1]
    by_cases h2 : t ≤ 1000000
    · rw [show min t 1000000 = t by omega]
    · rw [show min t 1000000 = 1000000 by omega]
      by_cases hr : r = 0
      · subst hr; simp
      · have h3 : 1000000 * 1 ≤ t * r := Int.mul_le_mul (by omega) (by omega) (by omega) (by omega)
        have h4 : 1000000 * 1 ≤ 1000000 * r := by omega
        omega
  · rw [if_neg (by omega), if_neg h1]; omega

/-- Both buckets hold one state. -/
structure Both (B : Nat) (w w' : World) (b m : Nat) (r s l : Int) : Prop where
  ok : Ok3 r s l
  x : Bk 46 w' b r s l
  y : Bk 35 w' m r s l
  fr : Fr (fun k => B ≤ k) w w'
  hb : B ≤ b
  hm : B ≤ m
  ne : b ≠ m
theorem Both.drewN {B : Nat} {w w' : World} {b m : Nat} {r s l : Int} (h : Both B w w' b m r s l) (q : Nat) : Both B w (w'.drewN q) b m r s l :=
  ⟨h.ok, h.x.drewN q, h.y.drewN q, h.fr.drewN q, h.hb, h.hm, h.ne⟩

set_option maxRecDepth 100000 in
set_option maxHeartbeats 2000000 in
theorem does_any (r s n : Int) (a : Option Addr) (len cap : Nat) (zs : List Int) (w : World) (hn : i64 n) (hlen : len ≤ 9223372036854775807) (hz : Nums w a len zs) :
    Calls Try.prog 3 #[.int .i64 r, .int .i64 s, .slice a len cap, .int .i64 n] w fun e w' => e = .returned (.bool true) ∧ Below w.heap.size w w' := by
  by_cases ho : Ok3 r s s
  · obtain ⟨hn1, hn2⟩ := hn
    go_enter Try.func3, Try.ntmps3
    go_wp2_with fail
    refine (new_ok r s w ho w.heap.size (Nat.le_refl _)).mono ?_
    rintro e w1 ⟨b, hB, -, rfl, hb, hf1⟩
    have hbl := hb.lt
    go_wp2_with fail
    refine (rnew_ok r s w1 ho w1.heap.size (Nat.le_refl _)).mono ?_
    rintro e w2 ⟨m, hM, hms, rfl, hm, hf2⟩
    have hs1 := hf1.size
    have hS : Both w.heap.size w w2 b m r s s := ⟨ho, hb.fr hf2 (by omega), hm, hf1.tr (hf2.mono fun _ _ h => by omega), hB, by omega, by omega⟩
    clear hb hf1 hm hf2 hbl hms hs1
    go_wp2_with fail
    go_loopg [13] len (fun g i wr => ∃ (k : Nat) (l : Int), k + g = len ∧ i = .int .i64 k ∧ Both w.heap.size w wr b m r s l)
    case atStart => exact ⟨0, s, by omega, rfl, hS⟩
    case round =>
      clear hS
      obtain ⟨k, l, hk, rfl, hS⟩ := hrel
      have HK := Lib.hid hk
      have hk' : k ≤ len := by omega
      clear hk
      by_cases hlt : k < len ∧ k < 100
      · obtain ⟨hlt, hlt2⟩ := hlt
        obtain ⟨ab, off, rfl, hab, hc⟩ := hz (by omega)
        obtain ⟨hc, hz1, hz2⟩ := hc k hlt
        obtain ⟨z, hz'⟩ : ∃ z, z = zs.getD k 0 := ⟨_, rfl⟩
        rw [← hz'] at hc hz1 hz2
        clear hz'
        have hcc : ∀ (wx : World) (l : Int), Both w.heap.size w wx b m r s l → wx.cell? ⟨ab, off + k, none⟩ = some (.int .i64 z) := fun _ _ h => by rw [← hc]; exact (h.fr.below (Nat.le_refl _)).cell hab
        have HCC := Lib.hid hcc
        clear hcc hc
        have hc := HCC.out _ _ hS
        go_upto_if 61 with (fail)
        go_cut [14, 15, 16] (fun _ _ _ wx => ∃ l, Both w.heap.size w wx b m r s l)
        case first =>
          by_cases h0 : z < 0
          · go_wp2_with fail
            refine (tick_any b r s l _ wr hS.x hS.ok (by omega)).mono ?_
            rintro e w3 ⟨rfl, h3, f3⟩
            go_wp2_with fail
            refine (rtick_any m r s l _ w3 (hS.y.fr f3 (Ne.symm hS.ne)) hS.ok (by omega)).mono ?_
            rintro e w4 ⟨rfl, h4, f4⟩
            rw [rtick_eq hS.ok] at h4
            go_wp2_with fail
            go_meet
            exact ⟨_, ticks_ok hS.ok _, h3.fr f4 hS.ne, h4, (hS.fr.tr (f3.up hS.hb)).tr (f4.up hS.hm), hS.hb, hS.hm, hS.ne⟩
          · go_wp2_with fail
            refine (take_any b r s l _ wr hS.x hS.ok (by omega)).mono ?_
            rintro e w3 ⟨rfl, h3, f3⟩
            have hc3 : w3.cell? ⟨ab, off + k, none⟩ = some (.int .i64 z) := by
              rw [← hc]; exact ((f3.up hS.hb).below hS.fr.size).cell hab
            go_wp2_with fail
            refine (rtake_any m r s l _ w3 (hS.y.fr f3 (Ne.symm hS.ne)) hS.ok (by omega)).mono ?_
            rintro e w4 ⟨rfl, h4, f4⟩
            go_wp2_with fail
            go_meet
            exact ⟨_, takes_ok hS.ok _, h3.fr f4 hS.ne, h4, (hS.fr.tr (f3.up hS.hb)).tr (f4.up hS.hm), hS.hb, hS.hm, hS.ne⟩
        case rest =>
          clear hS hc l
          obtain ⟨l, hS⟩ := hcut
          have hc := HCC.out _ _ hS
          have c2 := hS.y.c2
          by_cases hk0 : k = 0
          · subst hk0
            simp only [Nat.add_zero] at hc
            go_wp2_with fail
            go_quiet (first
              | (go_at_call 16; exact Calls.quiet_of (level_q b r s l _ (hS.x.drewN _)))
              | (go_at_call 17; exact Calls.quiet_of (wait_any b r s l _ _ (hS.x.drewN _) hS.ok (by omega)))
              | (go_at_call 18; exact Calls.quiet_of (rwait_any m r s l _ _ (hS.y.drewN _) hS.ok (by omega))))
            go_wp2_with fail
            go_roundg (len - 1)
            case measure => have := HK.out; omega
            case rel => exact ⟨1, l, by omega, by go_num, hS.drewN _⟩
          · have h0 : ((k : Int) == 0) = false := by simp; omega
            go_wp2_with fail
            go_quiet (first
              | (go_at_call 16; exact Calls.quiet_of (level_q b r s l _ (hS.x.drewN _)))
              | (go_at_call 17; exact Calls.quiet_of (wait_any b r s l _ _ (hS.x.drewN _) hS.ok (by omega)))
              | (go_at_call 18; exact Calls.quiet_of (rwait_any m r s l _ _ (hS.y.drewN _) hS.ok (by omega))))
            go_wp2_with fail
            go_roundg (len - (k + 1))
            case measure => have := HK.out; omega
            case rel => exact ⟨k + 1, l, by omega, by go_num, hS.drewN _⟩
      · go_wp2_with fail
        all_goals
          refine (known_any wr).mono ?_
          rintro e w3 ⟨rfl, hb3⟩
          go_wp2_with fail
          go_ret
          exact ⟨rfl, (hS.fr.below (Nat.le_refl _)).trans (hb3.mono hS.fr.size)⟩
  · go_enter Try.func3, Try.ntmps3
    go_wp2_with fail
    refine (new_bad r s w ho).mono ?_
    rintro e w1 ⟨rfl, rfl⟩
    go_wp2_with fail
    refine (rnew_bad r s w ho).mono ?_
    rintro e w1 ⟨rfl, rfl⟩
    go_wp2_with fail
    refine (known_any w).mono ?_
    rintro e w3 ⟨rfl, hb3⟩
    go_wp2_with fail
    go_ret
    exact ⟨rfl, hb3⟩

set_option maxRecDepth 100000 in
set_option maxHeartbeats 400000 in
theorem backs_any (base most tries own : Int) (w : World) (hb : i64 base) (hm : i64 most) (ht : i64 tries) (ho : 0 ≤ own ∧ own < 18446744073709551616) :
    Calls Try.prog 4 #[.int .i64 base, .int .i64 most, .int .i64 tries, .int .u64 own] w fun e w' => e = .returned (.bool true) ∧ Below w.heap.size w w' := by
  go_enter Try.func4, Try.ntmps4
  go_wp2_with fail
  refine (back_any base most tries own w hb hm ht ho).mono ?_
  rintro e w1 ⟨rfl, rfl⟩
  go_wp2_with fail
  refine (rback_any base most tries own w hb hm ht ho).mono ?_
  rintro e w1 ⟨rfl, rfl⟩
  go_wp2_with fail
  refine (known_any w).mono ?_
  rintro e w3 ⟨rfl, hb3⟩
  go_wp2_with fail
  go_ret
  exact ⟨rfl, hb3⟩
end Go.Proofs.Ytahjimjlialmbaa
