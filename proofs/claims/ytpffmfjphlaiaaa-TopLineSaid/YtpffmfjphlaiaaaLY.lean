/- The line: a move that turns a bit, over what it calls. -/
import Derived.Test.YtpffmfjphlaiaaaNetA
import Derived.Laws.BitsAllLaws
import Derived.Deep.AppendLies
import Derived.Deep.RegionLaw
import Derived.Deep.RegionWith
import Derived.StillTailTactics
import Derived.BigRegion
namespace Go.Proofs.Ytpffmfjphlaiaaa
open Go.RowKit

theorem by_val (z : Int) (pl : Nat) (h0 : 12 ≤ pl) (h : pl ≤ 1012) : ∃ k : Nat, k < 8 * (pl - 6) ∧ IntKind.i64.wrap ((IntKind.u64.wrap z).tmod (8 * ((pl : Int) - 6))) = (k : Int) := by
  have hX : 0 ≤ IntKind.u64.wrap z := by rw [IntKind.wrap_u64]; omega
  obtain ⟨X, hX'⟩ := Int.eq_ofNat_of_zero_le hX
  obtain ⟨n, hn⟩ : ∃ n, n = 8 * (pl - 6) := ⟨_, rfl⟩
  have hni : 8 * ((pl : Int) - 6) = (n : Int) := by omega
  refine ⟨X % n, by rw [hn]; exact Nat.mod_lt _ (by omega), ?_⟩
  rw [hX', hni]
  have h1 : ((X : Int)).tmod (n : Int) = ((X % n : Nat) : Int) := by
    rw [Int.tmod_eq_emod_of_nonneg (by omega)]; exact (Int.natCast_emod X n).symm
  rw [h1, IntKind.wrap_i64]
  have := Nat.mod_lt X (by omega : n > 0)
  omega
theorem at_val (z : Int) (len : Nat) (h0 : ¬ len = 0) (h : len ≤ 256) : ∃ k : Nat, k < len ∧ IntKind.i64.wrap ((IntKind.u64.wrap z).tmod (len : Int)) = (k : Int) := by
  have hX : 0 ≤ IntKind.u64.wrap z := by rw [IntKind.wrap_u64]; omega
  obtain ⟨X, hX'⟩ := Int.eq_ofNat_of_zero_le hX
  refine ⟨X % len, Nat.mod_lt _ (by omega), ?_⟩
  rw [hX']
  have h1 : ((X : Int)).tmod (len : Int) = ((X % len : Nat) : Int) := by
    rw [Int.tmod_eq_emod_of_nonneg (by omega)]; exact (Int.natCast_emod X len).symm
  rw [h1, IntKind.wrap_i64]
  have := Nat.mod_lt X (by omega : len > 0)
  omega
theorem xor_val (d0 : UInt8) (x : Nat) (hx : x < 8) : ∃ d : UInt8, d0 ≠ d ∧ bits .xor .u8 (d0.toNat : Int) (2 ^ x % 256) = (d.toNat : Int) := by
  obtain ⟨m, hm, hm1, hm2⟩ : ∃ m : Nat, ((2 : Int) ^ x % 256) = (m : Int) ∧ 0 < m ∧ m < 256 := by
    match x, hx with
    | 0, _ => exact ⟨1, by decide, by decide, by decide⟩
    | 1, _ => exact ⟨2, by decide, by decide, by decide⟩
    | 2, _ => exact ⟨4, by decide, by decide, by decide⟩
    | 3, _ => exact ⟨8, by decide, by decide, by decide⟩
    | 4, _ => exact ⟨16, by decide, by decide, by decide⟩
    | 5, _ => exact ⟨32, by decide, by decide, by decide⟩
    | 6, _ => exact ⟨64, by decide, by decide, by decide⟩
    | 7, _ => exact ⟨128, by decide, by decide, by decide⟩
  have hd := d0.toNat_lt
  have hlt : d0.toNat ^^^ m < 2 ^ 8 := Nat.xor_lt_two_pow (by omega) (by omega)
  refine ⟨UInt8.ofNat (d0.toNat ^^^ m), fun h => ?_, ?_⟩
  · have h2 := congrArg UInt8.toNat h
    rw [UInt8.toNat_ofNat_of_lt' (by omega)] at h2
    have h3 := congrArg (fun t => d0.toNat ^^^ t) h2
    simp only [← Nat.xor_assoc, Nat.xor_self, Nat.zero_xor] at h3
    omega
  · rw [hm, u8_xor_nat _ _ (by omega) hm2, UInt8.toNat_ofNat_of_lt' (by omega)]

set_option maxRecDepth 100000 in
set_option maxHeartbeats 8000000 in
theorem moves6 (T : World → World → Nat → Nat → Prop) (Post : World → Prop) (a nb : Nat) (at_ by_ : Int) (w : World) (len k pl : Nat) (pf pt : Int) (B : List UInt8)
    (hkv : IntKind.i64.wrap ((IntKind.u64.wrap at_).tmod (len : Int)) = (k : Int)) (hl0 : ¬ len = 0) (hl256 : len ≤ 256) (hB : B.length = pl) (hp12 : 12 ≤ pl) (hp1012 : pl ≤ 1012)
    (ha : w.cell? ⟨a, 2, none⟩ = some (.pointer (some ⟨nb, 0, none⟩)))
    (hLen : Hid (∀ wx, Fr (fun _ => False) w wx → Calls Try.prog 9 #[.pointer (some ⟨nb, 0, none⟩)] wx fun e w' => e = .returned (.int .i64 (len : Int)) ∧ wx = w'))
    (hTake : Hid (∀ wx, Fr (fun _ => False) w wx → Calls Try.prog 10 #[.pointer (some ⟨nb, 0, none⟩), .int .i64 (k : Int)] wx fun e w3 => ∃ g cap, e = .returned (.tuple #[.agg #[.int .i64 pf, .int .i64 pt, .slice (some ⟨g, 0, none⟩) pl cap], .bool true]) ∧ T wx w3 g cap))
    (hT : Hid (∀ wx w3 g cap, T wx w3 g cap → Fr (fun x => x < w.heap.size) wx w3 ∧ w3.ownsRow 0 5 1 (.slice (some ⟨g, 0, none⟩) pl cap) pl (u8s B)))
    (hCome : Hid (∀ wx w3 w4 g cap i d0 d, Fr (fun _ => False) w wx → T wx w3 g cap → Fr (fun _ => False) w3 w4 → 6 ≤ i → B[i]? = some d0 → d0 ≠ d →
      Calls Try.prog 11 #[.pointer (some ⟨a, 0, none⟩), .agg #[.int .i64 pf, .int .i64 pt, .slice (some ⟨g, 0, none⟩) pl cap], .bool true] (w4.setCell ⟨g, i, none⟩ (.int .u8 (d.toNat : Int))) fun e w' => e = .returned (.tuple #[]) ∧ Post w')) :
    Calls Try.prog 5 #[.pointer (some ⟨a, 0, none⟩), .agg #[.int .i64 6, .int .i64 at_, .int .i64 by_]] w fun e w' => e = .returned (.tuple #[]) ∧ Post w' := by
  obtain ⟨w1, hw1⟩ : ∃ w1, w1 = w.alloc (.cells #[.int .i64 6, .int .i64 at_, .int .i64 by_] 29) := ⟨_, rfl⟩
  have hf1 : Fr (fun _ => False) w w1 := by rw [hw1]; exact (Fr.refl _ w).alloc _
  have hB1 : Blk w1 w.heap.size 29 #[.int .i64 6, .int .i64 at_, .int .i64 by_] := by rw [hw1]; exact Blk.new _ _ _
  have a2 : w1.cell? ⟨a, 2, none⟩ = some (.pointer (some ⟨nb, 0, none⟩)) := hf1.cell ha (fun h => h)
  have m1 : w1.cell? ⟨w.heap.size, 1, none⟩ = some (.int .i64 at_) := hB1.cell 1 rfl
  have hli : (len : Int) ≤ 256 := by omega
  have hl1 : (0 : Int) < (len : Int) := by omega
  have hwl : IntKind.u64.wrap (len : Int) = (len : Int) := by rw [IntKind.wrap_u64]; omega
  have hne0 : ¬ (len : Int) = 0 := by omega
  have HKV := Lib.hid hkv
  have HW := Lib.hid hw1
  have H1 := Lib.hid (And.intro hf1 (And.intro hB1 hB))
  clear hw1 hf1 hB1 hkv ha hB
  go_enter Try.func5, Try.ntmps5
  go_upto_region 1 with (fail)
  rw [← HW.out]
  go_wp2_with fail
  refine (hLen.out w1 H1.out.1).mono ?_
  rintro e w2 ⟨rfl, rfl⟩
  go_upto_if 13 with (fail)
  go_cut [4] (fun x4 wx => x4 = .int .i64 (k : Int) ∧ Fr (fun _ => False) w1 wx)
  case first =>
    go_upto_region 3 with (fail)
    go_region_law (first
      | (go_simp
         go_at_call 9
         refine (hLen.out _ (H1.out.1.tr (Fr.refl _ w1).drew)).mono ?_
         rintro e wy ⟨rfl, rfl⟩))
    all_goals
      go_wp2_with fail
      go_meet
      exact ⟨congrArg (Value.int .i64) HKV.out, (Fr.refl _ w1).drew⟩
  case rest =>
    obtain ⟨rfl, hf2⟩ := hcut
    obtain ⟨w2, hw2⟩ : ∃ w2, w2 = wc := ⟨_, rfl⟩
    rw [← hw2] at hf2 ⊢
    clear hw2
    have hB2 := H1.out.2.1.fr hf2 (fun h => h)
    have e2 : w2.cell? ⟨a, 2, none⟩ = some (.pointer (some ⟨nb, 0, none⟩)) := hf2.cell a2 (fun h => h)
    have m0 : w2.cell? ⟨w.heap.size, 0, none⟩ = some (.int .i64 6) := hB2.cell 0 rfl
    have m2 : w2.cell? ⟨w.heap.size, 2, none⟩ = some (.int .i64 by_) := hB2.cell 2 rfl
    have H2 := Lib.hid (And.intro hB2 (H1.out.1.tr hf2))
    clear hB2 hf2 a2 m1
    go_wp2_with fail
    refine (hTake.out w2 H2.out.2).mono ?_
    rintro e w3 ⟨g, cap, rfl, hTT⟩
    obtain ⟨hf3, ho3⟩ := hT.out _ _ _ _ hTT
    obtain ⟨w4, hw4⟩ : ∃ w4, w4 = w3.alloc (Obj.cells #[.int .i64 pf, .int .i64 pt, .slice (some ⟨g, 0, none⟩) pl cap] 40) := ⟨_, rfl⟩
    have hf4 : Fr (fun _ => False) w3 w4 := by rw [hw4]; exact (Fr.refl _ w3).alloc _
    have hB4 : Blk w4 w3.heap.size 40 #[.int .i64 pf, .int .i64 pt, .slice (some ⟨g, 0, none⟩) pl cap] := by rw [hw4]; exact Blk.new _ _ _
    have hm4 := (H2.out.1.fr hf3 (fun e => by omega)).fr hf4 (fun h => h)
    have n0 : w4.cell? ⟨w.heap.size, 0, none⟩ = some (.int .i64 6) := hm4.cell 0 rfl
    have n2 : w4.cell? ⟨w.heap.size, 2, none⟩ = some (.int .i64 by_) := hm4.cell 2 rfl
    have q0 : w4.cell? ⟨w3.heap.size, 0, none⟩ = some (.int .i64 pf) := hB4.cell 0 rfl
    have q1 : w4.cell? ⟨w3.heap.size, 1, none⟩ = some (.int .i64 pt) := hB4.cell 1 rfl
    have q2 : w4.cell? ⟨w3.heap.size, 2, none⟩ = some (.slice (some ⟨g, 0, none⟩) pl cap) := hB4.cell 2 rfl
    have hgl : g < w3.heap.size := own_lt ho3 rfl
    have HG : Hid (∀ x, x = w.heap.size → ¬ x = g) := Lib.hid fun x hx e => by
      have hne := own_blk_ne ho3 (H2.out.1.fr hf3 (fun e => by omega)) (by decide) g rfl
      omega
    have HC := Lib.hid (And.intro hTT (And.intro hf4 (And.intro hB4 (And.intro hm4 (own_fr ho3 hf4 (fun _ _ h => h))))))
    have HW4 := Lib.hid hw4
    have hpi : (12 : Int) ≤ (pl : Int) := by omega
    have hpj : (pl : Int) ≤ 1012 := by omega
    clear hTT hw4 hf4 hB4 hm4 ho3 hf3 m0 m2
    go_upto_region 12 with (fail)
    rw [← HW4.out]
    go_upto_region 13 with (fail)
    have hp60 : ¬ (pl : Int) - 6 = 0 := by omega
    have hp61 : ¬ 8 * ((pl : Int) - 6) = 0 := by omega
    go_cut [7] (fun x7 wx => ∃ z : Nat, x7 = .int .i64 (z : Int) ∧ z < 8 * (pl - 6) ∧ w4 = wx)
    case first =>
      obtain ⟨z, hz1, hz2⟩ := by_val by_ pl hp12 hp1012
      have HZ := Lib.hid hz2
      clear hz2
      go_wp2_with fail
      go_meet
      exact ⟨z, congrArg (Value.int .i64) (by have h := HZ.out; first | exact h | exact (IntWalk.i64_left _).symm.trans h), hz1, rfl⟩
    case rest =>
      obtain ⟨z, rfl, hz, rfl⟩ := hcut
      go_upto_region 14 with (fail)
      obtain ⟨i, hi⟩ : ∃ i, i = 6 + z / 8 := ⟨_, rfl⟩
      have hBl := H1.out.2.2
      have hil : i < pl := by omega
      obtain ⟨d0, hd0⟩ : ∃ d0, B[i]? = some d0 := ⟨_, List.getElem?_eq_getElem (by omega)⟩
      have hrow := HC.out.2.2.2.2
      have r0 := own_cell hrow i (u8s_get _ i hd0)
      have rf : w4.frozen? ⟨g, i, none⟩ = false := by
        rcases own_form hrow with ⟨h, -⟩ | ⟨g', cap', cur, h, -, hb, -⟩
        · cases h
        · injection h with h; injection h with h; injection h with h; subst h; exact hb.frozen _
      obtain ⟨y, hy⟩ : ∃ y, y = z / 8 := ⟨_, rfl⟩
      obtain ⟨x, hx⟩ : ∃ x, x = z % 8 := ⟨_, rfl⟩
      have hz8 : (z : Int) / 8 = (y : Int) := by omega
      have hzm : (z : Int) % 8 = (x : Int) := by omega
      have hz8t : (z : Int).tdiv 8 = (y : Int) := by rw [Int.tdiv_eq_ediv_of_nonneg (by omega)]; exact hz8
      have hzmt : (z : Int).tmod 8 = (x : Int) := by rw [Int.tmod_eq_emod_of_nonneg (by omega)]; exact hzm
      have hii : (6 : Int) + (y : Int) = (i : Int) := by omega
      have hil2 : (i : Int) < (pl : Int) := by omega
      have hyl : (y : Int) ≤ 1012 := by omega
      have hx8 : (x : Int) < 8 := by omega
      have HI := Lib.hid (And.intro hi (And.intro hy (And.intro hx (And.intro hz hd0))))
      clear hrow hBl hi hy hx hz hd0 hil
      go_region
      obtain ⟨d, hd, hdv⟩ := xor_val d0 x (by omega)
      rw [hdv]
      obtain ⟨w6, hw6⟩ : ∃ w6, w6 = (w4.setCell ⟨g, i, none⟩ (.int .u8 (d.toNat : Int))).drew := ⟨_, rfl⟩
      have hf6 : Fr (fun x => x = g) w4 w6 := by rw [hw6]; exact (Fr.set1 _ _ _ _).drew
      have hg3 : w3.heap.size ≠ g := by omega
      have n6 : w6.cell? ⟨w.heap.size, 0, none⟩ = some (.int .i64 6) := hf6.cell n0 (fun e => HG.out _ rfl e)
      have p0 : w6.cell? ⟨w3.heap.size, 0, none⟩ = some (.int .i64 pf) := hf6.cell q0 hg3
      have p1 : w6.cell? ⟨w3.heap.size, 1, none⟩ = some (.int .i64 pt) := hf6.cell q1 hg3
      have p2 : w6.cell? ⟨w3.heap.size, 2, none⟩ = some (.slice (some ⟨g, 0, none⟩) pl cap) := hf6.cell q2 hg3
      have hcm := hCome.out w2 w3 w4.drew g cap i d0 d H2.out.2 HC.out.1 HC.out.2.1.drew (by have := HI.out.1; omega) HI.out.2.2.2.2 hd
      rw [show w4.drew.setCell ⟨g, i, none⟩ (.int .u8 (d.toNat : Int)) = w6 from hw6.symm] at hcm
      have HCM := Lib.hid hcm
      rw [← hw6]
      clear hw6 hf6 n0 n2 q0 q1 q2 r0 rf hcm hdv hd
      rename_i hmm
      simp only [Exit.then]
      refine hmm _ _ ?_
      go_wp2_with fail
      refine HCM.out.mono ?_
      rintro e w7 ⟨rfl, hP⟩
      go_wp2_with fail
      exact bodyPost_end (results_none rfl _ _ _) rfl ⟨rfl, hP⟩
end Go.Proofs.Ytpffmfjphlaiaaa
