/- bin: numbers as bytes. -/
import Derived.Test.YtpffmfjphlaiaaaLA
import Derived.Lib.BitFns
import Derived.WalkMore
namespace Go.Proofs.Ytpffmfjphlaiaaa
open Go.RowKit

theorem u8s_fix {n : Nat} (hn : n < 4294967296) : u8s (fix4 n) = [.int .u8 ((n : Int) / 16777216), .int .u8 ((n : Int) / 65536 % 256), .int .u8 ((n : Int) / 256 % 256), .int .u8 ((n : Int) % 256)] := by
  unfold u8s fix4
  simp only [List.map_cons, List.map_nil, UInt8.toNat_ofNat']
  have e1 : (((n / 16777216) % 256 : Nat) : Int) = (n : Int) / 16777216 := by omega
  have e2 : (((n / 65536) % 256 : Nat) : Int) = (n : Int) / 65536 % 256 := by omega
  have e3 : (((n / 256) % 256 : Nat) : Int) = (n : Int) / 256 % 256 := by omega
  have e4 : ((n % 256 : Nat) : Int) = (n : Int) % 256 := by omega
  rw [show (2 : Nat) ^ 8 = 256 from rfl, e1, e2, e3, e4]

set_option maxHeartbeats 4000000 in
theorem putfix_any (n : Nat) (hn : n < 4294967296) (w : World) :
    Calls Try.prog 45 #[.int .u32 n] w fun e w' => ∃ g, e = .returned (.slice (some ⟨g, 0, none⟩) 4 4) ∧ w'.ownsRow w.heap.size 5 1 (.slice (some ⟨g, 0, none⟩) 4 4) 4 (u8s (fix4 n)) ∧ Fr (fun _ => False) w w' := by
  have hrow := World.ownsRow_lit (base := w.heap.size) (e := 5) (size := 1) w #[.int .u8 ((n : Int) / 16777216), .int .u8 ((n : Int) / 65536 % 256), .int .u8 ((n : Int) / 256 % 256), .int .u8 ((n : Int) % 256)] 4 (Nat.le_refl _) (by simp [maxLen]) rfl
  have HR := Lib.hid hrow
  clear hrow
  go_enter Try.func45, Try.ntmps45
  go_wp2_with fail
  go_ret
  exact ⟨w.heap.size, rfl, by rw [u8s_fix hn]; exact HR.out, (Fr.refl _ w).alloc _⟩

theorem u32_shlor {n c : Nat} (hn : n < 16777216) (hc : c < 256) : bits .or .u32 ((n : Int) * 256) (c : Int) = ((n * 256 + c : Nat) : Int) := by
  have h := u32_or_nat (n * 256) c (by omega) (by omega)
  rw [show n * 256 = n <<< 8 from by rw [Nat.shiftLeft_eq], ← Nat.shiftLeft_add_eq_or_of_lt (by omega : c < 2 ^ 8), Nat.shiftLeft_eq] at h
  rw [show (n : Int) * 256 = ((n * 256 : Nat) : Int) by omega]
  exact h
def pref (l : List UInt8) : Nat → Nat
  | 0 => 0
  | k + 1 => pref l k * 256 + (l[k]?.getD 0).toNat
theorem pref_lt (l : List UInt8) : ∀ k, pref l k < 256 ^ k
  | 0 => by simp [pref]
  | k + 1 => by
    have h1 := pref_lt l k
    have h2 := (l[k]?.getD 0).toNat_lt
    rw [Nat.pow_succ]
    unfold pref
    omega
theorem pref_unfix {l : List UInt8} (h : l.length = 4) : pref l 4 = unfix l := by
  match l, h with
  | [a, b, c, d], _ => simp [pref, unfix]

set_option maxHeartbeats 4000000 in
theorem fixed_any (A : Option Addr) (sc : Nat) (bs : List UInt8) (i : Nat) (w : World) (hs : Byt w (.slice A bs.length sc) bs) (hsc : bs.length ≤ sc) (hl : bs.length ≤ 1000000) (hi : i + 4 ≤ bs.length) :
    Calls Try.prog 41 #[.slice A bs.length sc, .int .i64 i] w fun e w' => e = .returned (.tuple #[.int .u32 (unfix ((bs.drop i).take 4) : Nat), .int .i64 (i + 4 : Nat), .int .i64 0]) ∧ w = w' := by
  obtain ⟨b, off, hA, hcell⟩ : ∃ b off, A = some ⟨b, off, none⟩ ∧ ∀ i u, bs[i]? = some u → w.cell? ⟨b, off + i, none⟩ = some (.int .u8 (u.toNat : Int)) := by
    obtain ⟨A', c', e, -, hb⟩ := hs
    injection e with e1
    subst e1
    exact hb (by rintro rfl; simp at hi)
  subst hA
  have HC := Lib.hid hcell
  have hi0 : ¬ (i : Int) < 0 := by omega
  have hi1 : ¬ (bs.length : Int) < (i : Int) := by omega
  have hi2 : ¬ (bs.length : Int) - (i : Int) < 4 := by omega
  have hi3 : i + 4 ≤ sc := by omega
  have hi4 : (i : Int) + 4 ≤ (sc : Int) := by omega
  have hi5 : i ≤ i + 4 := by omega
  clear hs hcell
  go_enter Try.func41, Try.ntmps41
  go_wp2_with fail
  go_loopg [7, 29] 4 (fun g x7 x29 wr => ∃ k : Nat, k + g = 4 ∧ x29 = .int .i64 k ∧ x7 = .int .u32 (pref ((bs.drop i).take 4) k : Nat) ∧ w = wr)
  case atStart => exact ⟨0, by omega, rfl, rfl, rfl⟩
  case round =>
    obtain ⟨k, hk, rfl, rfl, rfl⟩ := hrel
    have HK := Lib.hid hk
    have hk4 : k ≤ 4 := by omega
    obtain ⟨R, hR⟩ : ∃ R, R = pref ((bs.drop i).take 4) k := ⟨_, rfl⟩
    have HR := Lib.hid hR
    rw [← hR]
    clear hk hR
    by_cases hkl : k < 4
    · obtain ⟨u, hu⟩ : ∃ u, bs[i + k]? = some u := ⟨_, List.getElem?_eq_getElem (by omega)⟩
      have hq := HC.out (i + k) u hu
      rw [← Nat.add_assoc] at hq
      have hRl : R < 16777216 := by
        rw [HR.out]
        have h1 := pref_lt ((bs.drop i).take 4) k
        have h2 : 256 ^ k ≤ 256 ^ 3 := Nat.pow_le_pow_right (by omega) (by omega)
        omega
      have hul := u.toNat_lt
      have hT : R * 256 + u.toNat = pref ((bs.drop i).take 4) (k + 1) := by
        unfold pref
        rw [← HR.out, List.getElem?_take_of_lt hkl, List.getElem?_drop, hu]
        rfl
      obtain ⟨U, hU⟩ : ∃ U, U = u.toNat := ⟨_, rfl⟩
      rw [← hU] at hq hul hT
      have hx := u32_shlor hRl hul
      have HT := Lib.hid hT
      clear hu hU hT
      go_wp2_with fail
      go_roundg (4 - (k + 1))
      case measure => have := HK.out; omega
      case rel => exact ⟨k + 1, by have := HK.out; omega, by go_num, by rw [← HT.out]; exact congrArg (Value.int .u32) (show (R : Int) * 256 + (U : Int) = ((R * 256 + U : Nat) : Int) by omega), rfl⟩
    · obtain rfl : k = 4 := by omega
      go_wp2_with fail
      refine bodyPost_ret (results_tmp3 rfl _ _ _) rfl ?_
      refine ⟨?_, rfl⟩
      rw [← pref_unfix (by simp; omega), ← HR.out]
      rfl

theorem byte_of {n : Nat} (h : n < 128) : u8s [UInt8.ofNat n] = [.int .u8 (n : Int)] := by
  unfold u8s
  simp only [List.map_cons, List.map_nil, UInt8.toNat_ofNat']
  rw [Nat.mod_eq_of_lt (by omega)]
theorem len8_tab : ∀ n : Fin 128, Lib.len8 (n.val : Int) = (((Lib.len8 (n.val : Int)).toNat : Nat) : Int) ∧ (Lib.len8 (n.val : Int)).toNat ≤ 7 := by decide +kernel
theorem len8_small {n : Nat} (h : n < 128) : ∃ k : Nat, Lib.len8 (n : Int) = (k : Int) ∧ k ≤ 7 := ⟨_, len8_tab ⟨n, h⟩⟩
set_option maxRecDepth 100000 in
set_option maxHeartbeats 4000000 in
theorem len64_any (n : Nat) (hn : n < 128) (w : World) :
    Calls Try.prog 44 #[.int .u64 n] w fun e w' => ∃ k : Nat, e = .returned (.int .i64 k) ∧ k ≤ 7 ∧ w = w' := by
  have h1 : ¬ (4294967296 : Int) ≤ (n : Int) := by omega
  have h2 : ¬ (65536 : Int) ≤ (n : Int) := by omega
  have h3 : ¬ (256 : Int) ≤ (n : Int) := by omega
  have h4 : (n : Int) ≤ 255 := by omega
  have h5 : (0 : Int) ≤ (n : Int) := by omega
  have hL := Lib.hid (len8_small hn)
  go_enter Try.func44, Try.ntmps44
  go_upto_region 10 with (fail)
  generalize hT : Value.string _ = S
  have hS : S = Value.string Lib.len8tab := by rw [← hT]; kernel_rfl
  clear hT
  subst hS
  go_wp2_with fail
  go_ret
  obtain ⟨k, hk, hk7⟩ := hL.out
  have e1 : wrap64 (k : Int) = (k : Int) := by unfold wrap64; omega
  exact ⟨k, by rw [hk, e1, e1]; rfl, hk7, rfl⟩
set_option maxRecDepth 100000 in
set_option maxHeartbeats 4000000 in
theorem uint_any (A : Option Addr) (sc : Nat) (bs : List UInt8) (i : Nat) (u : UInt8) (w : World) (hs : Byt w (.slice A bs.length sc) bs) (hl : bs.length ≤ 1000000) (hu : bs[i]? = some u) (hu1 : u.toNat < 128) :
    Calls Try.prog 43 #[.slice A bs.length sc, .int .i64 i] w fun e w' => e = .returned (.tuple #[.int .u64 (u.toNat : Nat), .int .i64 (i + 1 : Nat), .int .i64 0]) ∧ w = w' := by
  have hi := (List.getElem?_eq_some_iff.1 hu).1
  obtain ⟨b, off, hA, hcell⟩ : ∃ b off, A = some ⟨b, off, none⟩ ∧ ∀ i u, bs[i]? = some u → w.cell? ⟨b, off + i, none⟩ = some (.int .u8 (u.toNat : Int)) := by
    obtain ⟨A', c', e, -, hb⟩ := hs
    injection e with e1
    subst e1
    exact hb (by rintro rfl; simp at hi)
  subst hA
  have hq := hcell i u hu
  have hi0 : ¬ (i : Int) < 0 := by omega
  have hi1 : ¬ (bs.length : Int) < (i : Int) := by omega
  have hi2 : ¬ (bs.length : Int) ≤ (i : Int) := by omega
  obtain ⟨U, hU⟩ : ∃ U, U = u.toNat := ⟨_, rfl⟩
  rw [← hU] at hq hu1 ⊢
  have hu2 : (U : Int) < 128 := by omega
  have hand : bits .and .u8 (U : Int) 127 = (U : Int) := by
    have := u8_and_nat U 127 (by omega) (by decide)
    rw [show U &&& 127 = U from by rw [show (127 : Nat) = 2 ^ 7 - 1 from rfl, Nat.and_two_pow_sub_one_eq_mod]; omega] at this
    exact this
  have hor : bits .or .u64 0 (U : Int) = (U : Int) := by
    have := u64_or_nat 0 U (by decide) (by omega)
    rw [Nat.zero_or] at this
    exact this
  clear hs hcell hu hU
  go_enter Try.func43, Try.ntmps43
  go_wp2_with fail
  go_step3
  go_wp2_with fail
  go_step3
  go_wp2_with fail
  go_loopg [7, 8, 9, 18, 33, 40] 1 (fun g x7 _ _ x18 _ _ wr => g = 1 ∧ x18 = .int .i64 0 ∧ x7 = .int .u64 0 ∧ w = wr)
  case atStart => exact ⟨rfl, rfl, rfl, rfl⟩
  case round =>
    obtain ⟨hg, rfl, rfl, rfl⟩ := hrel
    clear hg
    go_wp2_with fail
    all_goals
      rw [Exit.noGoto_ret]
      refine bodyPost_ret (results_tmp3 rfl _ _ _) rfl ⟨?_, rfl⟩
      first
        | rfl
        | (have e0 : (U : Int) = 0 := by omega
           have e1 : U = 0 := by omega
           subst e1
           have e2 : bits .or .u64 0 (IntKind.u64.wrap (IntKind.u64.wrap (bits .and .u8 0 127))) = 0 := by decide +kernel
           rw [← e2]
           rfl)

set_option maxRecDepth 100000 in
set_option maxHeartbeats 4000000 in
theorem putuint_any (n : Nat) (hn : n < 128) (w : World) :
    Calls Try.prog 39 #[.int .u64 n] w fun e w' => ∃ g, e = .returned (.slice (some ⟨g, 0, none⟩) 1 1) ∧ w'.ownsRow w.heap.size 5 1 (.slice (some ⟨g, 0, none⟩) 1 1) 1 (u8s [UInt8.ofNat n]) ∧ Fr (fun _ => False) w w' := by
  obtain ⟨i0, hi0, hz0, hz1, hz2⟩ := info_parts u8info
  have hmk : ∀ w : World, (Instr.makeSlice 24 (.int .i64 1) (.int .i64 1)).run Try.prog w = .ok (.slice (some ⟨w.heap.size, 0, none⟩) 1 1) (w.alloc (.cells #[.int .u8 0] 5)) := fun w => by
    have hr := run_makeSlice (P := Try.prog) w 24 5 i0 (.int .u8 0) Try.underlying24 hi0 hz0 .i64 .i64 1 1 (by omega) (by omega) (by rw [hz1]; simp) (by rw [hz2]; omega) (by omega)
    rw [hz1, show madeCells (Value.int IntKind.u8 0).cells (Int.toNat 1 * 1) = #[.int .u8 0] from by kernel_rfl] at hr
    exact hr
  obtain ⟨w1, hw1⟩ : ∃ w1, w1 = w.alloc (.cells #[.int .u8 0] 5) := ⟨_, rfl⟩
  have hf1 : Fr (fun _ => False) w w1 := by rw [hw1]; exact (Fr.refl _ w).alloc _
  have hB1 : Blk w1 w.heap.size 5 #[.int .u8 0] := by rw [hw1]; exact Blk.new _ _ _
  obtain ⟨g, hg⟩ : ∃ g, g = w.heap.size := ⟨_, rfl⟩
  rw [← hg] at hB1
  have HW := Lib.hid (And.intro hw1 hg)
  clear hw1 hg hi0 hz0 hz1 hz2 i0
  go_enter Try.func39, Try.ntmps39
  go_wp2_with fail
  refine (len64_any n hn w).mono ?_
  rintro e w2 ⟨k, rfl, hk, rfl⟩
  have hmx : (k : Int) + 6 < 14 := by omega
  go_upto_region 2 with (fail)
  go_upto_region 3 with (fail)
  rw [← HW.out.1, ← HW.out.2]
  have g0 := hB1.cell 0 rfl
  have gf := hB1.frozen 0
  have hand : bits .and .u64 (n : Int) 127 = (n : Int) := by
    have := u64_and_nat n 127 (by omega) (by decide)
    rw [show n &&& 127 = n from by rw [show (127 : Nat) = 2 ^ 7 - 1 from rfl, Nat.and_two_pow_sub_one_eq_mod]; omega] at this
    exact this
  have hor : bits .or .u8 (n : Int) 128 = (n : Int) + 128 := by
    have h := u8_or_nat n 128 (by omega) (by decide)
    rw [Nat.or_comm, show (128 : Nat) = 1 <<< 7 from rfl, ← Nat.shiftLeft_add_eq_or_of_lt (by omega : n < 2 ^ 7)] at h
    rw [show (128 : Int) = ((1 <<< 7 : Nat) : Int) from rfl, h, show (1 <<< 7 : Nat) = 128 from rfl]
    omega
  have hand2 : bits .and .u8 ((n : Int) + 128) 127 = (n : Int) := by
    have := u8_and_nat (n + 128) 127 (by omega) (by decide)
    rw [show (n + 128) &&& 127 = n from by rw [show (127 : Nat) = 2 ^ 7 - 1 from rfl, Nat.and_two_pow_sub_one_eq_mod]; omega] at this
    exact this
  have hn2 : (n : Int) < 128 := by omega
  go_wp2_with fail
  go_loopg [0, 5, 15] 1 (fun g' x0 x5 x15 wr => ∃ (j : Nat) (b : Int), j + g' = 1 ∧ x15 = .int .i64 j ∧ x0 = .int .u64 (if j = 0 then (n : Int) else 0) ∧ b = (if j = 0 then 0 else (n : Int) + 128) ∧ Blk wr g 5 #[.int .u8 b] ∧ Fr (fun k => k = g) w1 wr)
  case atStart => exact ⟨0, 0, by omega, rfl, rfl, rfl, hB1, Fr.refl _ _⟩
  case round =>
    clear g0 gf hB1
    obtain ⟨j, b, hj, rfl, rfl, rfl, hB, hf⟩ := hrel
    have HJ := Lib.hid hj
    by_cases hj0 : j = 0
    · subst hj0
      simp only [↓reduceIte] at hB ⊢
      have g0 : wr.cell? ⟨g, 0, none⟩ = some (.int .u8 0) := hB.cell 0 rfl
      have gf := hB.frozen 0
      have hB2 := hB.set_ 0 (.int .u8 ((n : Int) + 128))
      have hf2 : Fr (fun k => k = g) w1 (wr.setCell ⟨g, 0, none⟩ (.int .u8 ((n : Int) + 128))) := hf.tr (Fr.set1 _ _ _ _)
      have H2 := Lib.hid (And.intro hB2 hf2)
      clear hB hf hB2 hf2 hj
      go_wp2_with fail
      go_roundg 0
      case measure => have := HJ.out; omega
      case rel => exact ⟨1, (n : Int) + 128, by omega, by go_num, by rw [show (n : Int) / 128 = 0 by omega]; rfl, rfl, by simpa using H2.out.1, H2.out.2⟩
    · have hj1 : j = 1 := by omega
      subst hj1
      rw [if_neg hj0] at hB
      have g0 : wr.cell? ⟨g, 0, none⟩ = some (.int .u8 ((n : Int) + 128)) := hB.cell 0 rfl
      have gf := hB.frozen 0
      have hB2 := hB.set_ 0 (.int .u8 (n : Int))
      have hf2 : Fr (fun k => k = g) w1 (wr.setCell ⟨g, 0, none⟩ (.int .u8 (n : Int))) := hf.tr (Fr.set1 _ _ _ _)
      have H2 := Lib.hid (And.intro hB2 hf2)
      have HF1 := Lib.hid hf1
      clear hB hf hB2 hf2 hj hf1
      go_wp2_with fail
      go_ret
      refine ⟨g, rfl, ?_, HF1.out.trans H2.out.2 (fun k hk h => h.elim id (fun e => by have := HW.out.2; omega))⟩
      rw [byte_of hn]
      have := own_mk (e := 5) (n := 1) (size := 1) (cap := 1) (xs := [.int .u8 (n : Int)]) H2.out.1 (Nat.le_refl _) (by simp [maxLen]) (by simp) (by simp)
      exact own_up this (fun k hk => by simp only [Value.ownBlock] at hk; injection hk with hk; have := HW.out.2; omega)
end Go.Proofs.Ytpffmfjphlaiaaa
