/- frame.Sum. -/
import Derived.Test.YtpffmfjphlaiaaaSum
import Derived.Test.YtpffmfjphlaiaaaNetA
import Derived.Laws.BitsAllLaws
namespace Go.Proofs.Ytpffmfjphlaiaaa
open Go.RowKit

theorem crc8_succ : ∀ (k r : Nat), crc8 r (k + 1) = crcS (crc8 r k)
  | 0, _ => rfl
  | k + 1, r => crc8_succ k (crcS r)
theorem crcL_take {bs : List UInt8} {j : Nat} {u : UInt8} (h : bs[j]? = some u) (r : Nat) : crcL r (bs.take (j + 1)) = crcB (crcL r (bs.take j)) u := by
  rw [List.take_add_one, h, Option.toList_some, crcL_append]
  rfl

set_option maxHeartbeats 8000000 in
theorem sum_any (b off c : Nat) (s : Value) (bs : List UInt8) (w : World) (hs : Byt w s bs) (hl : bs.length ≤ 1000000) (hc : w.cell? ⟨b, off, none⟩ = some s) :
    Calls Try.prog 42 #[.slice (some ⟨b, off, none⟩) 1 c] w fun e w' => e = .returned (.int .u32 (sumL bs : Nat)) ∧ w = w' := by
  have hs0 := hs
  obtain ⟨A, sc, rfl, h0, hb⟩ := hs0
  have HB := Lib.hid hb
  clear hb hs h0
  go_enter Try.func42, Try.ntmps42
  go_wp2_with fail
  go_loopg [3, 11] 1 (fun g x3 x11 wr => ∃ j : Nat, j + g = 1 ∧ x11 = .int .i64 j ∧ x3 = .int .u32 (crcL 4294967295 (bs.take (j * bs.length)) : Nat) ∧ w = wr)
  case atStart => exact ⟨0, by omega, rfl, by rw [Nat.zero_mul]; rfl, rfl⟩
  case round =>
    obtain ⟨j, hj, rfl, rfl, rfl⟩ := hrel
    by_cases hj1 : j = 1
    · subst hj1
      clear hj
      rw [Nat.one_mul, List.take_length]
      obtain ⟨R, hR⟩ : ∃ R, R = crcL 4294967295 bs := ⟨_, rfl⟩
      have hRl : R < 4294967296 := by rw [hR]; exact crcL_lt _ (by decide)
      have HR := Lib.hid hR
      rw [← hR]
      clear hR
      go_wp2_with fail
      go_ret
      have hmx : bits .xor .u32 IntKind.u32.max (R : Int) = ((R ^^^ 4294967295 : Nat) : Int) := by
        have := u32_xor_nat 4294967295 R (by decide) hRl
        rw [Nat.xor_comm]
        exact this
      refine ⟨?_, rfl⟩
      unfold sumL
      rw [← HR.out, ← hmx]
      rfl
    · obtain rfl : j = 0 := by omega
      have HJ := Lib.hid hj
      clear hj hj1
      rw [Nat.zero_mul]
      go_wp2_with fail
      go_loopg [3, 17] bs.length (fun g x3 x17 wr => ∃ i : Nat, i + g = bs.length ∧ x17 = .int .i64 i ∧ x3 = .int .u32 (crcL 4294967295 (bs.take i) : Nat) ∧ w = wr)
      case atStart => exact ⟨0, by omega, rfl, rfl, rfl⟩
      case round =>
        obtain ⟨i, hi, rfl, rfl, rfl⟩ := hrel
        have HI := Lib.hid hi
        have hile : i ≤ bs.length := by omega
        clear hi
        obtain ⟨R, hR⟩ : ∃ R, R = crcL 4294967295 (bs.take i) := ⟨_, rfl⟩
        have hRl : R < 4294967296 := by rw [hR]; exact crcL_lt _ (by decide)
        have HR := Lib.hid hR
        rw [← hR]
        clear hR
        by_cases hil : i < bs.length
        · obtain ⟨u, hu⟩ : ∃ u, bs[i]? = some u := ⟨_, List.getElem?_eq_getElem hil⟩
          obtain ⟨b2, off2, hA, hcell⟩ := HB.out (by rintro rfl; simp at hil)
          subst hA
          have hq := hcell i u hu
          have hul := u.toNat_lt
          obtain ⟨U, hU⟩ : ∃ U, U = u.toNat := ⟨_, rfl⟩
          rw [← hU] at hq hul
          have HU := Lib.hid (And.intro hu hU)
          clear hu hU hcell
          have hx : bits .xor .u32 (R : Int) (U : Int) = ((R ^^^ U : Nat) : Int) := u32_xor_nat R U hRl (by omega)
          obtain ⟨Z, hZ⟩ : ∃ Z, Z = R ^^^ U := ⟨_, rfl⟩
          rw [← hZ] at hx
          have HZ := Lib.hid hZ
          have hZl : Z < 4294967296 := by rw [hZ]; exact Nat.xor_lt_two_pow (n := 32) hRl (by omega)
          clear hZ
          go_wp2_with fail
          go_loopg [3, 8, 25] 8 (fun g x3 _ x25 wr => ∃ k : Nat, k + g = 8 ∧ x25 = .int .i64 k ∧ x3 = .int .u32 (crc8 Z k : Nat) ∧ w = wr)
          case atStart => exact ⟨0, by omega, rfl, by first | rfl | (rw [hx]; rfl), rfl⟩
          case round =>
            obtain ⟨k, hk, rfl, rfl, rfl⟩ := hrel
            have HK := Lib.hid hk
            have hk8 : k ≤ 8 := by omega
            have hQl : crc8 Z k < 4294967296 := crc8_lt k hZl
            have hsucc := crc8_succ k Z
            obtain ⟨Q, hQ⟩ : ∃ Q, Q = crc8 Z k := ⟨_, rfl⟩
            rw [← hQ] at hQl hsucc ⊢
            have HQ := Lib.hid (And.intro hQ hsucc)
            clear hk hQ hsucc
            by_cases hkl : k < 8
            · by_cases hb1 : Q % 2 = 1
              · have ha : bits .and .u32 (Q : Int) 1 = 1 := by
                  have := u32_and_nat Q 1 hQl (by decide)
                  rw [Nat.and_one_is_mod, hb1] at this
                  exact this
                have hx2 : bits .xor .u32 ((Q : Int) / 2) 3988292384 = ((Q / 2 ^^^ crcP : Nat) : Int) := u32_xor_nat (Q / 2) crcP (by omega) (by decide)
                obtain ⟨T, hT⟩ : ∃ T, T = Q / 2 ^^^ crcP := ⟨_, rfl⟩
                rw [← hT] at hx2
                have HT := Lib.hid (show T = crc8 Z (k + 1) by rw [HQ.out.2]; unfold crcS; rw [if_pos hb1, hT])
                clear hT
                go_wp2_with fail
                go_roundg (8 - (k + 1))
                case measure => have := HK.out; omega
                case rel => exact ⟨k + 1, by have := HK.out; omega, by go_num, by rw [← HT.out], rfl⟩
              · have hb0 : Q % 2 = 0 := by omega
                have ha : bits .and .u32 (Q : Int) 1 = 0 := by
                  have := u32_and_nat Q 1 hQl (by decide)
                  rw [Nat.and_one_is_mod, hb0] at this
                  exact this
                have HT := Lib.hid (show ((Q : Int) / 2) = (crc8 Z (k + 1) : Nat) by rw [HQ.out.2]; unfold crcS; rw [if_neg hb1]; omega)
                go_wp2_with fail
                go_roundg (8 - (k + 1))
                case measure => have := HK.out; omega
                case rel => exact ⟨k + 1, by have := HK.out; omega, by go_num, by rw [HT.out], rfl⟩
            · obtain rfl : k = 8 := by omega
              have HT := Lib.hid (show Q = crcL 4294967295 (bs.take (i + 1)) by
                rw [crcL_take HU.out.1, ← HR.out, HQ.out.1, HZ.out, HU.out.2]
                rfl)
              go_wp2_with fail
              go_roundg (bs.length - (i + 1))
              case measure => have := HI.out; omega
              case rel => exact ⟨i + 1, by have := HI.out; omega, by go_num, by rw [← HT.out], rfl⟩
        · obtain rfl : i = bs.length := by omega
          rw [List.take_length] at HR
          go_wp2_with fail
          go_roundg 0
          case measure => have := HJ.out; omega
          case rel => exact ⟨1, by omega, by go_num, by rw [Nat.one_mul, List.take_length, ← HR.out], rfl⟩
end Go.Proofs.Ytpffmfjphlaiaaa
