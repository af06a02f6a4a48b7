/- The walk of Own of the document's lists. -/
import Derived.Test.YtemjgllijlaejaaOwnA
import Derived.IntWalk
namespace Go.Proofs.Ytemjgllijlaejaa
open Go.RowKit

theorem slinfo : (Try.prog.info? 27).map (fun i => (i.zero, i.size, i.bytes)) = some (some (.slice none 0 0), 1, 24) := by kernel_rfl

theorem own_sl2 {w : World} {base e size n : Nat} {v : Value} {xs : List Value} (h : w.ownsRow base e size v n xs) : ∃ va vc, v = .slice va n vc := by
  rcases own_form h with ⟨h1, h2, _⟩ | ⟨g, cap, cur, h1, _⟩
  · exact ⟨none, 0, by rw [h1, h2]⟩
  · exact ⟨some ⟨g, 0, none⟩, cap, h1⟩
set_option maxRecDepth 100000 in
set_option maxHeartbeats 16000000 in
theorem rows_own_any (W : World) (o oc : Nat) (R : List Rw) (hR : Rows5 W R) (hl : R.length ≤ 5) (ho : ∀ (i : Nat) (r : Rw), R[i]? = some r → W.cell? ⟨o, i, none⟩ = some r.v) (hog : ∀ (i : Nat) (r : Rw), R[i]? = some r → r.g ≠ o) (h0 : Over R 0 0 W) :
    Calls Try.prog 25 #[.slice (some ⟨o, 0, none⟩) R.length oc] W fun e w' => e = .returned (.bool true) ∧ Fr (InR R) W w' := by
  obtain ⟨i0, hi0, hz0, hz1, hz2⟩ := info_parts u8info
  obtain ⟨i1, hi1, hy0, hy1, hy2⟩ := info_parts slinfo
  have hcl : ∀ (i : Nat) (r : Rw), R[i]? = some r → ∀ wx, Fr (InR R) W wx → wx.cell? ⟨o, i, none⟩ = some (.slice (some ⟨r.g, 0, none⟩) r.n r.c) := fun i r hr wx hf => hf.cell (ho i r hr) (by rintro ⟨j, s, hs, h⟩; exact hog j s hs h.symm)
  have HC := Lib.hid hcl
  clear hcl ho hog
  go_enter Try.func25, Try.ntmps25
  go_wp2_with fail
  go_loopg [4] R.length (fun g x4 wr => ∃ (i : Nat), i + g = R.length ∧ x4 = .int .i64 i ∧ Over R i 0 wr ∧ Fr (InR R) W wr)
  case atStart => exact ⟨0, by omega, rfl, h0, Fr.refl _ _⟩
  case round =>
    obtain ⟨i, hi, rfl, hOv, hf⟩ := hrel
    have HI := Lib.hid hi
    have hi' : i ≤ R.length := by omega
    clear hi h0
    by_cases hlt : i < R.length
    · obtain ⟨r, hr⟩ : ∃ r, R[i]? = some r := ⟨_, List.getElem?_eq_getElem hlt⟩
      obtain ⟨_, hnc, hcm, hn⟩ := hR.lt i r hr
      have HRr := Lib.hid hr
      have HS := Lib.hid (And.intro hOv hf)
      clear hr hOv hf
      go_wp2_with fail
      go_loopg [5] r.n (fun g5 x5 wx => ∃ (k : Nat), k + g5 = r.n ∧ x5 = .int .i64 k ∧ Over R i k wx ∧ Fr (InR R) W wx)
      case atStart => exact ⟨0, by omega, rfl, HS.out.1, HS.out.2⟩
      case round =>
        obtain ⟨k, hk, rfl, hOv, hf⟩ := hrel
        have HK := Lib.hid hk
        have hk' : k ≤ r.n := by omega
        have q0 := HC.out i r HRr.out wr hf
        clear hk HS
        by_cases hkl : k < r.n
        · obtain ⟨u, hu⟩ := hOv.cell hR HRr.out hkl
          have q1 : wr.frozen? ⟨r.g, k, none⟩ = false := hOv.frozen HRr.out
          have HS := Lib.hid (And.intro hOv hf)
          clear hOv hf
          go_wp2_with fail
          go_roundg (r.n - (k + 1))
          case measure => have := HK.out; omega
          case rel =>
            have hk1 := HK.out
            exact ⟨k + 1, by omega, by go_num, Over.put hR HRr.out hkl HS.out.1, HS.out.2.setCell (p := ⟨r.g, k, none⟩) (fun _ => ⟨i, r, HRr.out, rfl⟩) _⟩
        · obtain rfl : k = r.n := by omega
          have HS := Lib.hid (And.intro (hOv.next HRr.out) hf)
          clear hOv hf
          go_wp2_with fail
          go_roundg (R.length - (i + 1))
          case measure => have := HI.out; omega
          case rel => exact ⟨i + 1, by have := HI.out; omega, by go_num, HS.out.1, HS.out.2⟩
    · obtain rfl : i = R.length := by omega
      have HL := Lib.hid (And.intro (Long.start hR hOv hf.size) hf)
      clear hOv hf
      go_wp2_with fail
      go_loopg [3, 6] R.length (fun g x3 x6 wx => ∃ (i : Nat) (la : Option Addr) (lc : Nat) (ys : List Value), i + g = R.length ∧ x3 = .slice la i lc ∧ x6 = .int .i64 i ∧ ys.length = i ∧ Long W R i ys wx ∧ wx.ownsRow W.heap.size 27 1 (.slice la i lc) i ys ∧ Fr (InR R) W wx)
      case atStart => exact ⟨0, none, 0, [], by omega, rfl, rfl, rfl, HL.out.1, World.ownsRow_nil _ _ _ _, HL.out.2⟩
      case round =>
        clear HL HI
        obtain ⟨i, la, lc, ys, hi, rfl, rfl, hys, hL, hlong, hf⟩ := hrel
        have HI := Lib.hid (And.intro hi hys)
        have hi' : i ≤ R.length := by omega
        clear hi hys
        by_cases hlt : i < R.length
        · obtain ⟨r, hr⟩ : ∃ r, R[i]? = some r := ⟨_, List.getElem?_eq_getElem hlt⟩
          obtain ⟨hrg, hnc, hcm, hn⟩ := hR.lt i r hr
          have HRr := Lib.hid hr
          have q0 := HC.out i r hr wr hf
          obtain ⟨hL1, hG⟩ := hL.open hR HI.out.2 hr
          have HS := Lib.hid (And.intro hL1 (And.intro hG (And.intro hlong hf)))
          clear hr hL hf hlong hL1 hG
          go_wp2_with fail
          clear q0
          go_loopg [7, 8] 4 (fun g7 x7 x8 wy => ∃ (k h cap : Nat), k + g7 = 4 ∧ x7 = .slice (some ⟨h, 0, none⟩) (r.n + k) cap ∧ x8 = .int .i64 k ∧ Long W R (i + 1) ys wy ∧ Grow W r i ys h cap k wy ∧ wy.ownsRow W.heap.size 27 1 (.slice la i lc) i ys ∧ Fr (InR R) W wy)
          case atStart => exact ⟨0, r.g, r.c, by omega, rfl, rfl, HS.out.1, HS.out.2.1, HS.out.2.2.1, HS.out.2.2.2⟩
          case round =>
            clear HS
            obtain ⟨k, h, cap, hk, rfl, rfl, hL, hG, hlong, hf⟩ := hrel
            have HK := Lib.hid hk
            have hk' : k ≤ 4 := by omega
            clear hk
            by_cases hkl : k < 4
            · obtain ⟨w5, hw5⟩ : ∃ w5, w5 = wr.alloc (.cells #[tz i k] 5) := ⟨_, rfl⟩
              have hf5 : Fr (fun _ => False) wr w5 := by rw [hw5]; exact (Fr.refl _ wr).alloc _
              have hn5 : ∀ j u, [tz i k][j]? = some u → w5.cell? (Addr.add ⟨wr.heap.size, 0, none⟩ j) = some u := by
                rw [hw5]; exact World.news_of_block (cs := #[tz i k]) (t := 5) (fr := (0, 0)) (heap_alloc_new wr _)
              have hL5 := hL.up hf5
              have hG5 := hG.up hf5
              have hlong5 := own_fr hlong hf5 (fun _ _ h => h)
              have hf55 := hf.trans hf5 (Z := InR R) (fun k _ h => h.elim id False.elim)
              have hz5 : W.heap.size ≤ w5.heap.size := hf55.size
              unfold tz at hw5
              have HW5 := Lib.hid hw5
              have how := hG5.ow
              have HS := Lib.hid (And.intro hL5 (And.intro hG5 (And.intro hlong5 hf55)))
              clear hw5 hf5 hL hG hlong hf hL5 hG5 hlong5 hf55
              go_wp2_with (first
                | (at_builtin
                   rw [← HW5.out]
                   clear HW5
                   refine wpList_bi2 rfl .append _ _ _ _ _ rfl rfl rfl _ (ap_two (base := 0) Try.underlying27 hi0 hz0 hz1 hz2 rfl (by omega) h cap how ⟨wr.heap.size, 0, none⟩ 1 1 [tz i k] rfl hn5 (by simp [tz, Value.oneCell']) (by unfold maxLen; omega) (by omega) (Nat.zero_le _)) ?_
                   rintro v' w6 ⟨h', cap', rfl, hown6, hfr6⟩))
              go_roundg (4 - (k + 1))
              case measure => have := HK.out; omega
              case rel =>
                obtain ⟨hL5, hG5, hlong5, hf55⟩ := HS.out
                obtain ⟨hL6, hG6⟩ := Grow.put hR HI.out.2 HRr.out hL5 hG5 hown6 hfr6
                have hlong6 : w6.ownsRow W.heap.size 27 1 (.slice la i lc) i ys := by
                  rcases hfr6 with ⟨_, hf6⟩ | ⟨_, hf6⟩
                  · exact own_fr hlong5 hf6 (fun k' hk' h => own_own_ne hlong5 hG5.ow (by decide) k' k' hk' (by simp [Value.ownBlock, h]) rfl)
                  · exact own_fr hlong5 hf6 (fun _ _ h => h)
                have hf66 : Fr (InR R) W w6 := by
                  rcases hfr6 with ⟨_, hf6⟩ | ⟨_, hf6⟩
                  · refine hf55.trans hf6 (fun k' hk' hx => ?_)
                    rcases hx with hx | hx
                    · exact hx
                    · subst hx
                      rcases hG5.at' with h1 | h1
                      · exact ⟨i, r, HRr.out, h1⟩
                      · omega
                  · exact hf55.trans hf6 (fun k' _ h => h.elim id False.elim)
                exact ⟨k + 1, h', cap', by have := HK.out; omega, by rw [Nat.add_assoc], by go_num, hL6, hG6, hlong6, hf66⟩
            · obtain rfl : k = 4 := by omega
              obtain ⟨w5, hw5⟩ : ∃ w5, w5 = wr.alloc (.cells #[.slice (some ⟨h, 0, none⟩) (r.n + 4) cap] 27) := ⟨_, rfl⟩
              have hf5 : Fr (fun _ => False) wr w5 := by rw [hw5]; exact (Fr.refl _ wr).alloc _
              have hn5 : ∀ j u, [Value.slice (some ⟨h, 0, none⟩) (r.n + 4) cap][j]? = some u → w5.cell? (Addr.add ⟨wr.heap.size, 0, none⟩ j) = some u := by
                rw [hw5]; exact World.news_of_block (cs := #[.slice (some ⟨h, 0, none⟩) (r.n + 4) cap]) (t := 27) (fr := (0, 0)) (heap_alloc_new wr _)
              have hL5 := (hL.close HI.out.2 HRr.out hG).up hf5
              have hlong5 := own_fr hlong hf5 (fun _ _ h => h)
              have hf55 := hf.trans hf5 (Z := InR R) (fun k _ h => h.elim id False.elim)
              have hz5 : W.heap.size ≤ w5.heap.size := hf55.size
              have HW5 := Lib.hid hw5
              have HS := Lib.hid (And.intro hL5 hf55)
              clear hw5 hf5 hL hG hlong hf hL5 hf55
              go_wp2_with (first
                | (at_builtin
                   rw [← HW5.out]
                   clear HW5
                   refine wpList_bi2 rfl .append _ _ _ _ _ rfl rfl rfl _ (ap_cells (base := W.heap.size) Try.underlying57 hi1 hy0 hy1 hy2 rfl (by omega) hlong5 ⟨wr.heap.size, 0, none⟩ 1 1 [.slice (some ⟨h, 0, none⟩) (r.n + 4) cap] rfl hn5 (by simp [Value.oneCell']) (by unfold maxLen; omega) (by omega) hz5) ?_
                   rintro v' w6 hap
                   obtain ⟨na, nc, rfl⟩ := own_sl2 hap.1))
              go_roundg (R.length - (i + 1))
              case measure => have := HI.out; omega
              case rel =>
                obtain ⟨hL5, hf55⟩ := HS.out
                have hL6 : Long W R (i + 1) (ys ++ [.slice (some ⟨h, 0, none⟩) (r.n + 4) cap]) w6 := by
                  refine hL5.far (X := fun k => (Value.slice la i lc).ownBlock = some k) (hap.fr (Fr.refl _ _) (fun k' hk' _ => hk')) (fun k' cur hk' hb => ?_)
                  exact own_blk_ne hlong5 (show Blk w5 k' 5 cur from hb) (by decide) k' hk' rfl
                exact ⟨i + 1, na, nc, _, by have := HI.out; omega, rfl, by go_num, by simp [HI.out.2], hL6, hap.1, hap.fr hf55 (fun k' hk' hlt' => by have := (hlong5.lt k' hk').1; omega)⟩
        · obtain rfl : i = R.length := by omega
          have HS := Lib.hid (And.intro hL (And.intro hlong (And.intro hf HI.out.2)))
          clear hL hlong hf
          go_wp2_with fail
          go_loopg [9] R.length (fun g x9 wx => ∃ (i : Nat), i + g = R.length ∧ x9 = .int .i64 i ∧ wr = wx)
          case atStart => exact ⟨0, by omega, rfl, rfl⟩
          case round =>
            obtain ⟨i, hi, rfl, hww⟩ := hrel
            subst hww
            have HI2 := Lib.hid hi
            have hi2 : i ≤ R.length := by omega
            clear hi
            by_cases hlt2 : i < R.length
            · obtain ⟨r, hr⟩ : ∃ r, R[i]? = some r := ⟨_, List.getElem?_eq_getElem hlt2⟩
              obtain ⟨y, hy⟩ : ∃ y, ys[i]? = some y := ⟨_, List.getElem?_eq_getElem (by have := HS.out.2.2.2; omega)⟩
              obtain ⟨hrg, hnc, hcm, hn⟩ := hR.lt i r hr
              obtain ⟨h, cap, rfl, hyo, -⟩ := HS.out.1.ys i r y hr hy
              have q0 := HC.out i r hr _ HS.out.2.2.1
              have hrd := Lib.hid (HS.out.1.rd i r hr)
              have q1 : ∃ lb, la = some ⟨lb, 0, none⟩ := by
                rcases own_form HS.out.2.1 with ⟨_, h2, _⟩ | ⟨g, cap, cur, h1, _⟩
                · omega
                · injection h1 with h1; exact ⟨g, h1⟩
              obtain ⟨lb, rfl⟩ := q1
              have q2 := own_cell HS.out.2.1 i hy
              have HY := Lib.hid hyo
              have hcc : r.n + 4 ≤ cap := by
                rcases own_form hyo with ⟨h1, _⟩ | ⟨g, cap', cur, h1, _, _, h2, _⟩
                · cases h1
                · injection h1 with _ _ h1; omega
              clear hyo hy hr
              go_wp2_with fail
              go_loopg [11] r.n (fun g x11 wx => ∃ (k : Nat), k + g = r.n ∧ x11 = .int .i64 k ∧ wr = wx)
              case atStart => exact ⟨0, by omega, rfl, rfl⟩
              case round =>
                obtain ⟨k, hk, rfl, hww⟩ := hrel
                subst hww
                have HK := Lib.hid hk
                have hk' : k ≤ r.n := by omega
                clear hk
                by_cases hkl : k < r.n
                · have q3 := hrd.out k _ (fill_get i r.n k hkl)
                  unfold fz at q3
                  go_wp2_with fail
                  go_roundg (r.n - (k + 1))
                  case measure => have := HK.out; omega
                  case rel => exact ⟨k + 1, by have := HK.out; omega, by go_num, rfl⟩
                · obtain rfl : k = r.n := by omega
                  go_wp2_with fail
                  go_loopg [12] 4 (fun g x12 wx => ∃ (k : Nat), k + g = 4 ∧ x12 = .int .i64 k ∧ wr = wx)
                  case atStart => exact ⟨0, by omega, rfl, rfl⟩
                  case round =>
                    obtain ⟨k, hk, rfl, hww⟩ := hrel
                    subst hww
                    have HK2 := Lib.hid hk
                    have hk2 : k ≤ 4 := by omega
                    clear hk
                    by_cases hkl2 : k < 4
                    · have q3 := own_cell HY.out (r.n + k) (by rw [List.getElem?_append_right (by rw [fill_len]; omega), fill_len, Nat.add_sub_cancel_left]; exact tail_get i 4 k hkl2)
                      unfold tz at q3
                      have v1 : IntKind.i64.wrap ((r.n : Int) + (k : Int)) = (r.n : Int) + (k : Int) := IntWalk.i64_in _ (by omega)
                      have v2 : ((r.n : Int) + (k : Int)).toNat = r.n + k := by omega
                      have v3 : (0 : Int) ≤ (r.n : Int) + (k : Int) := by omega
                      have v4 : (r.n : Int) + (k : Int) < ((r.n + 4 : Nat) : Int) := by omega
                      go_wp2_with fail
                      go_roundg (4 - (k + 1))
                      case measure => have := HK2.out; omega
                      case rel => exact ⟨k + 1, by have := HK2.out; omega, by go_num, rfl⟩
                    · obtain rfl : k = 4 := by omega
                      go_wp2_with fail
                      go_roundg (R.length - (i + 1))
                      case measure => have := HI2.out; omega
                      case rel => exact ⟨i + 1, by have := HI2.out; omega, by go_num, rfl⟩
            · obtain rfl : i = R.length := by omega
              have HF := Lib.hid HS.out.2.2.1
              go_wp2_with fail
              go_ret
              exact ⟨rfl, HF.out⟩
end Go.Proofs.Ytemjgllijlaejaa
