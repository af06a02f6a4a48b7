/- The walk of QuorumServes. -/
import Derived.Test.YtpcfeiejfomnoaaQH
import Derived.Deep.QuietTactic
import Derived.Deep.RegionHeld3
namespace Go.Proofs.Ytpcfeiejfomnoaa
open Go.RowKit

theorem u32s_get {L : List Nat} {i : Nat} {x : Nat} (h : L[i]? = some x) : (u32s L)[i]? = some (.int .u32 (x : Int)) := by simp [u32s, h]
/-- A list of sets that a call gave, read at i. -/
theorem own_at {w : World} {base : Nat} {L : List Nat} {va : Option Addr} {vc : Nat} (h : w.ownsRow base 29 1 (.slice va L.length vc) L.length (u32s L)) {i : Nat} {x : Nat} (hx : L[i]? = some x) :
    ∃ g, va = some ⟨g, 0, none⟩ ∧ w.cell? ⟨g, i, none⟩ = some (.int .u32 (x : Int)) := by
  have hi := (List.getElem?_eq_some_iff.1 hx).1
  rcases own_form h with ⟨h1, h2, _⟩ | ⟨g, cap, cur, h1, _⟩
  · omega
  · injection h1 with h1 _ h2
    subst h1 h2
    exact ⟨g, rfl, own_cell h i (u32s_get hx)⟩
theorem own_cap {w : World} {base e size n n' : Nat} {va : Option Addr} {vc : Nat} {xs : List Value} (h : w.ownsRow base e size (.slice va n vc) n' xs) (hn : 0 < n') : n ≤ vc := by
  rcases own_form h with ⟨h1, h2, _⟩ | ⟨g, cap, cur, h1, _, _, h3, _⟩
  · omega
  · injection h1 with _ h1 h2
    omega
/-- A list's sets, the set that is asked of: what the law goes by. -/
structure Lst (q : Qu) (sec : Bool) (X : Nat) (L : List Nat) : Prop where
  len : L.length ≤ 4096
  sm : ∀ x ∈ L, x < 4096
  lt : L.Pairwise (· < ·)
  ap : ∀ x ∈ L, ∀ y ∈ L, x ≠ y → ¬ x &&& y = x
  any : (L.any fun x => x &&& X == x) = isQ q sec X.testBit
theorem Lst.of (q : Qu) (sec : Bool) (X : Nat) (hX : X < 4294967296) : Lst q sec X (leastQ q sec) :=
  ⟨leastQ_len q sec, fun _ h => leastQ_small h, leastQ_lt q sec, fun _ hx _ hy hne => least_apart hx hy hne, serves q sec X hX⟩
theorem any_next {L : List Nat} {p : Nat → Bool} {i x : Nat} (h : L[i]? = some x) : (L.take (i + 1)).any p = ((L.take i).any p || p x) := by
  rw [List.take_add_one, h, List.any_append]; simp
theorem pair_lt {L : List Nat} (h : L.Pairwise (· < ·)) {i j x y : Nat} (hij : i < j) (hx : L[i]? = some x) (hy : L[j]? = some y) : x < y := by
  obtain ⟨h1, rfl⟩ := List.getElem?_eq_some_iff.1 hx
  obtain ⟨h2, rfl⟩ := List.getElem?_eq_some_iff.1 hy
  exact List.pairwise_iff_getElem.1 h i j h1 h2 hij
theorem pair_ne {L : List Nat} (h : L.Pairwise (· < ·)) {i j x y : Nat} (hij : i ≠ j) (hx : L[i]? = some x) (hy : L[j]? = some y) : x ≠ y := by
  rcases Nat.lt_or_gt_of_ne hij with h1 | h1
  · have := pair_lt h h1 hx hy; omega
  · have := pair_lt h h1 hy hx; omega
set_option maxRecDepth 100000 in
set_option maxHeartbeats 16000000 in
theorem serves_false (q : Qu) (s : Value) (X : Nat) (hX : X < 4294967296) (w : World) (hs : Ints w s q.s) :
    Calls Try.prog 7 #[q.v s, .bool false, .int .u32 (X : Int)] w fun e w' => e = .returned (.bool true) ∧ Below w.heap.size w w' := by
  have HM := Lib.hid (many_any q s)
  have HL := Lib.hid (leasts_any q false s)
  have H1 := Lib.hid (first_any q s X hX)
  have H2 := Lib.hid (second_any q s X hX)
  have HS := Lib.hid (Lst.of q false X hX)
  obtain ⟨w1, bq, hw1, hbq, B⟩ := Qb.start hs
  obtain ⟨IS, hIS⟩ : ∃ IS, IS = isQ q false X.testBit := ⟨_, rfl⟩
  have HIS := Lib.hid hIS
  obtain ⟨L, hLe⟩ : ∃ L, L = leastQ q false := ⟨_, rfl⟩
  rw [← hLe] at HL HS
  clear hIS hLe
  obtain ⟨k, n, o, t, l⟩ := q
  have hs0 := hs
  obtain ⟨A, c, rfl, -⟩ := hs0
  simp only [Qu.v] at HM HL H1 H2 HIS hw1 ⊢
  have HW := Lib.hid hw1
  have HB := Lib.hid hbq
  have B' := B
  obtain ⟨hfr, hbk, hit⟩ := B'
  simp only at hbk hit
  have b0 := hbk.cell 0 rfl
  have b1 := hbk.cell 1 rfl
  have b2 := hbk.cell 2 rfl
  have b3 := hbk.cell 3 rfl
  have b4 := hbk.cell 4 rfl
  clear hw1 hbq hs hfr hbk
  go_enter Try.func7, Try.ntmps7
  go_upto_region 1 with (fail)
  rw [← HW.out, ← HB.out]
  clear HW HB
  go_wp2_with fail
  refine (HM.out w1 hit).mono ?_
  rintro e w2 ⟨rfl, hf⟩
  have B := B.up hf
  clear b0 b1 b2 b3 b4 hf hit
  by_cases hl : 40 < l.length
  · rw [decide_eq_true hl]
    go_wp2_with fail
    refine (known_any w2).mono ?_
    rintro e w3 ⟨rfl, hf⟩
    go_wp2_with fail
    go_ret
    exact ⟨rfl, (B.up hf).below⟩
  rw [decide_eq_false hl]
  have hl' : l.length ≤ 1000 := by omega
  have B' := B
  obtain ⟨-, hbk, hit⟩ := B'
  simp only at hbk hit
  have b0 := hbk.cell 0 rfl
  have b1 := hbk.cell 1 rfl
  have b2 := hbk.cell 2 rfl
  have b3 := hbk.cell 3 rfl
  have b4 := hbk.cell 4 rfl
  clear hbk
  go_wp2_with fail
  refine (HL.out w2 hit hl').mono ?_
  rintro e w3 ⟨v, rfl, hrow, hf⟩
  obtain ⟨va, vc, rfl⟩ := own_sl hrow
  have B := B.up hf
  clear b0 b1 b2 b3 b4 hf hit
  have B' := B
  obtain ⟨-, hbk, hit⟩ := B'
  simp only at hbk hit
  have b0 := hbk.cell 0 rfl
  have b1 := hbk.cell 1 rfl
  have b2 := hbk.cell 2 rfl
  have b3 := hbk.cell 3 rfl
  have b4 := hbk.cell 4 rfl
  clear hbk
  go_wp2_with fail
  refine (H1.out w3 hit hl').mono ?_
  rintro e w4 ⟨rfl, hf⟩
  have B := B.up hf
  have hrow := own_fr hrow hf (fun _ _ h => h)
  clear b0 b1 b2 b3 b4 hf hit
  rw [← HIS.out]
  have hlen := HS.out.len
  have HRow := Lib.hid hrow
  have hfb := B.fr
  clear hrow B
  go_wp2_with fail
  go_loopg [9, 10] L.length (fun g x9 x10 wr => ∃ (i : Nat), i + g = L.length ∧ x9 = .bool ((L.take i).any fun x => x &&& X == x) ∧ x10 = .int .i64 i ∧ Fr (fun _ => False) w4 wr)
  case atStart => exact ⟨0, by omega, rfl, rfl, Fr.refl _ _⟩
  case round =>
    obtain ⟨i, hi, rfl, rfl, hfr⟩ := hrel
    have HI := Lib.hid hi
    have hi' : i ≤ L.length := by omega
    clear hi
    by_cases hlt : i < L.length
    · obtain ⟨x, hx⟩ : ∃ x, L[i]? = some x := ⟨_, List.getElem?_eq_getElem hlt⟩
      have hrow := own_fr HRow.out hfr (fun _ _ h => h)
      obtain ⟨g, rfl, q0⟩ := own_at hrow hx
      have hx4 := HS.out.sm x (List.mem_of_getElem? hx)
      have hand : bits .and .u32 (x : Int) (X : Int) = ((x &&& X : Nat) : Int) := u32_and_nat _ _ (by omega) hX
      obtain ⟨Z, hZ⟩ : ∃ Z, Z = x &&& X := ⟨_, rfl⟩
      rw [← hZ] at hand
      have hnx := any_next (p := fun x => x &&& X == x) hx
      simp only [← hZ] at hnx
      obtain ⟨P, hP⟩ : ∃ P, P = (L.take i).any fun x => x &&& X == x := ⟨_, rfl⟩
      rw [← hP] at hnx ⊢
      have HP := Lib.hid hP
      have HX := Lib.hid hx
      have HN := Lib.hid hnx
      obtain ⟨T, hT⟩ : ∃ T, T = ((Z : Int) == (x : Int)) := ⟨_, rfl⟩
      have HT := Lib.hid hT
      have hT2 : (P || T) = (L.take (i + 1)).any fun x => x &&& X == x := by rw [hnx, hT, eq_nat]
      have HT2 := Lib.hid hT2
      have hTe : ((Z : Int) == (x : Int)) = T := hT.symm
      have hnext : ∀ wx, Fr (fun _ => False) w4 wx → ∃ i' : Nat, i' + (L.length - (i + 1)) = L.length ∧ Value.bool (P || T) = .bool ((L.take i').any fun x => x &&& X == x) ∧ Value.int .i64 ((i : Int) + 1) = .int .i64 i' ∧ Fr (fun _ => False) w4 wx :=
        fun wx h => ⟨i + 1, by omega, by rw [hT2], by simp, h⟩
      have HNext := Lib.hid hnext
      clear hP hZ hnx hT hT2 hnext hx
      go_upto_region 11 with (fail)
      cases P with
      | true =>
        go_quiet (fail)
        clear hTe hand
        by_cases hi0 : i = 0
        · subst hi0
          go_wp2_with fail
          go_quiet (fail)
          go_wp2_with fail
          go_roundg (L.length - (0 + 1))
          case measure => have := HI.out; omega
          case rel => exact HNext.out _ (hfr.drewN _)
        · obtain ⟨j, hj⟩ : ∃ j, i = j + 1 := ⟨i - 1, by omega⟩
          obtain ⟨y, hy⟩ : ∃ y, L[j]? = some y := ⟨_, List.getElem?_eq_getElem (by omega)⟩
          obtain ⟨g', hg', q1⟩ := own_at hrow hy
          injection hg' with hg'
          injection hg' with hg' _
          subst hg'
          have hyx := pair_lt HS.out.lt (show j < i by omega) hy HX.out
          have hyx' : (y : Int) < (x : Int) := by omega
          have hi1 : (0 : Int) < (i : Int) := by omega
          have hj1 : (i : Int) - 1 = (j : Int) := by omega
          have hj2 : IntKind.i64.wrap ((i : Int) - 1) = (j : Int) := by rw [hj1]; exact IntWalk.i64_in _ (by omega)
          have hjl : j < L.length := by omega
          have hi2 : 0 < i := by omega
          clear hj hy hi0
          go_wp2_with fail
          go_quiet (fail)
          go_wp2_with fail
          go_roundg (L.length - (i + 1))
          case measure => have := HI.out; omega
          case rel => exact HNext.out _ (hfr.drewN _)
      | false =>
        go_quiet (fail)
        clear hTe hand
        by_cases hi0 : i = 0
        · subst hi0
          go_wp2_with fail
          go_quiet (fail)
          go_wp2_with fail
          go_roundg (L.length - (0 + 1))
          case measure => have := HI.out; omega
          case rel => exact HNext.out _ (hfr.drewN _)
        · obtain ⟨j, hj⟩ : ∃ j, i = j + 1 := ⟨i - 1, by omega⟩
          obtain ⟨y, hy⟩ : ∃ y, L[j]? = some y := ⟨_, List.getElem?_eq_getElem (by omega)⟩
          obtain ⟨g', hg', q1⟩ := own_at hrow hy
          injection hg' with hg'
          injection hg' with hg' _
          subst hg'
          have hyx := pair_lt HS.out.lt (show j < i by omega) hy HX.out
          have hyx' : (y : Int) < (x : Int) := by omega
          have hi1 : (0 : Int) < (i : Int) := by omega
          have hj1 : (i : Int) - 1 = (j : Int) := by omega
          have hj2 : IntKind.i64.wrap ((i : Int) - 1) = (j : Int) := by rw [hj1]; exact IntWalk.i64_in _ (by omega)
          have hjl : j < L.length := by omega
          have hi2 : 0 < i := by omega
          clear hj hy hi0
          go_wp2_with fail
          go_quiet (fail)
          go_wp2_with fail
          go_roundg (L.length - (i + 1))
          case measure => have := HI.out; omega
          case rel => exact HNext.out _ (hfr.drewN _)
    · obtain rfl : i = L.length := by omega
      have hany : ((L.take L.length).any fun x => x &&& X == x) = IS := by rw [List.take_length, HS.out.any, HIS.out]
      rw [hany]
      clear hany
      by_cases h60 : 60 < L.length
      · have hcap := own_cap HRow.out (by omega)
        obtain ⟨x0, hx0⟩ : ∃ x, L[0]? = some x := ⟨_, List.getElem?_eq_getElem (by omega)⟩
        obtain ⟨g, rfl, -⟩ := own_at HRow.out hx0
        have h60' : (60 : Int) < (L.length : Int) := by omega
        clear hx0
        go_wp2_with fail
        go_loopg [11] 60 (fun g11 x11 wx => ∃ (i : Nat), i + g11 = 60 ∧ x11 = .int .i64 i ∧ Fr (fun _ => False) w4 wx)
        case atStart => exact ⟨0, by omega, rfl, hfr⟩
        case round =>
          clear hfr HI
          obtain ⟨i, hi, rfl, hfr⟩ := hrel
          have HI := Lib.hid hi
          have hi' : i ≤ 60 := by omega
          clear hi
          by_cases hlt : i < 60
          · obtain ⟨x, hx⟩ : ∃ x, L[i]? = some x := ⟨_, List.getElem?_eq_getElem (by omega)⟩
            obtain ⟨gx, hgx, q0'⟩ := own_at HRow.out hx
            injection hgx with hgx
            injection hgx with hgx _
            subst hgx
            have HX := Lib.hid hx
            have HQ0 := Lib.hid q0'
            have HF := Lib.hid hfr
            clear hx q0' hfr
            go_wp2_with fail
            go_loopg [12] 60 (fun g12 x12 wx => ∃ (m : Nat), m + g12 = 60 ∧ x12 = .int .i64 m ∧ Fr (fun _ => False) w4 wx)
            case atStart => exact ⟨0, by omega, rfl, HF.out⟩
            case round =>
              clear HF
              obtain ⟨m, hm, rfl, hfr⟩ := hrel
              have HM2 := Lib.hid hm
              have hm' : m ≤ 60 := by omega
              clear hm
              by_cases hmlt : m < 60
              · obtain ⟨y, hy⟩ : ∃ y, L[m]? = some y := ⟨_, List.getElem?_eq_getElem (by omega)⟩
                obtain ⟨g', hg', q1'⟩ := own_at HRow.out hy
                injection hg' with hg'
                injection hg' with hg' _
                subst hg'
                have q0 := hfr.cell HQ0.out (fun h => h)
                have q1 := hfr.cell q1' (fun h => h)
                by_cases him : i = m
                · subst him
                  clear q1 q1' hy
                  go_wp2_with fail
                  go_quiet (fail)
                  go_wp2_with fail
                  go_roundg (60 - (i + 1))
                  case measure => have := HM2.out; omega
                  case rel => exact ⟨i + 1, by have := HM2.out; omega, by go_num, hfr.drewN _⟩
                · have hne := pair_ne HS.out.lt him HX.out hy
                  have hap := HS.out.ap x (List.mem_of_getElem? HX.out) y (List.mem_of_getElem? hy) hne
                  have hx4 := HS.out.sm x (List.mem_of_getElem? HX.out)
                  have hy4 := HS.out.sm y (List.mem_of_getElem? hy)
                  obtain ⟨Z, hZ⟩ : ∃ Z, Z = x &&& y := ⟨_, rfl⟩
                  have hand := and_eq x y hx4 hy4
                  rw [← hZ] at hand hap
                  have hZx : ((Z : Int) == (x : Int)) = false := by rw [eq_nat]; simpa using hap
                  have him1 : ((i : Int) == (m : Int)) = false := by rw [eq_nat]; simpa using him
                  have him2 : ((i : Int) != (m : Int)) = true := by unfold bne; rw [him1]; rfl
                  have hZ2 : ¬ Z = x := hap
                  clear hZ hap hne q1' hy
                  go_wp2_with fail
                  go_quiet (fail)
                  go_wp2_with fail
                  go_roundg (60 - (m + 1))
                  case measure => have := HM2.out; omega
                  case rel => exact ⟨m + 1, by have := HM2.out; omega, by go_num, hfr.drewN _⟩
              · obtain rfl : m = 60 := by omega
                go_wp2_with fail
                go_roundg (60 - (i + 1))
                case measure => have := HI.out; omega
                case rel => exact ⟨i + 1, by have := HI.out; omega, by go_num, hfr⟩
          · obtain rfl : i = 60 := by omega
            have hfin := hfb.tr hfr
            clear hfr
            go_wp2_with fail
            refine (known_any _).mono ?_
            rintro e w9 ⟨rfl, hf⟩
            go_wp2_with fail
            go_ret
            exact ⟨rfl, (hfin.tr hf).none_up.below (Nat.le_refl _)⟩
      · have h60' : ¬ (60 : Int) < (L.length : Int) := by omega
        go_wp2_with fail
        go_loopg [11] L.length (fun g11 x11 wx => ∃ (i : Nat), i + g11 = L.length ∧ x11 = .int .i64 i ∧ Fr (fun _ => False) w4 wx)
        case atStart => exact ⟨0, by omega, rfl, hfr⟩
        case round =>
          clear hfr HI
          obtain ⟨i, hi, rfl, hfr⟩ := hrel
          have HI := Lib.hid hi
          have hi' : i ≤ L.length := by omega
          clear hi
          by_cases hlt : i < L.length
          · obtain ⟨x, hx⟩ : ∃ x, L[i]? = some x := ⟨_, List.getElem?_eq_getElem (by omega)⟩
            obtain ⟨g, rfl, q0'⟩ := own_at HRow.out hx
            have HX := Lib.hid hx
            have HQ0 := Lib.hid q0'
            have HF := Lib.hid hfr
            clear hx q0' hfr
            go_wp2_with fail
            go_loopg [12] L.length (fun g12 x12 wx => ∃ (m : Nat), m + g12 = L.length ∧ x12 = .int .i64 m ∧ Fr (fun _ => False) w4 wx)
            case atStart => exact ⟨0, by omega, rfl, HF.out⟩
            case round =>
              clear HF
              obtain ⟨m, hm, rfl, hfr⟩ := hrel
              have HM2 := Lib.hid hm
              have hm' : m ≤ L.length := by omega
              clear hm
              by_cases hmlt : m < L.length
              · obtain ⟨y, hy⟩ : ∃ y, L[m]? = some y := ⟨_, List.getElem?_eq_getElem (by omega)⟩
                obtain ⟨g', hg', q1'⟩ := own_at HRow.out hy
                injection hg' with hg'
                injection hg' with hg' _
                subst hg'
                have q0 := hfr.cell HQ0.out (fun h => h)
                have q1 := hfr.cell q1' (fun h => h)
                by_cases him : i = m
                · subst him
                  clear q1 q1' hy
                  go_wp2_with fail
                  go_quiet (fail)
                  go_wp2_with fail
                  go_roundg (L.length - (i + 1))
                  case measure => have := HM2.out; omega
                  case rel => exact ⟨i + 1, by have := HM2.out; omega, by go_num, hfr.drewN _⟩
                · have hne := pair_ne HS.out.lt him HX.out hy
                  have hap := HS.out.ap x (List.mem_of_getElem? HX.out) y (List.mem_of_getElem? hy) hne
                  have hx4 := HS.out.sm x (List.mem_of_getElem? HX.out)
                  have hy4 := HS.out.sm y (List.mem_of_getElem? hy)
                  obtain ⟨Z, hZ⟩ : ∃ Z, Z = x &&& y := ⟨_, rfl⟩
                  have hand := and_eq x y hx4 hy4
                  rw [← hZ] at hand hap
                  have hZx : ((Z : Int) == (x : Int)) = false := by rw [eq_nat]; simpa using hap
                  have him1 : ((i : Int) == (m : Int)) = false := by rw [eq_nat]; simpa using him
                  have him2 : ((i : Int) != (m : Int)) = true := by unfold bne; rw [him1]; rfl
                  have hZ2 : ¬ Z = x := hap
                  clear hZ hap hne q1' hy
                  go_wp2_with fail
                  go_quiet (fail)
                  go_wp2_with fail
                  go_roundg (L.length - (m + 1))
                  case measure => have := HM2.out; omega
                  case rel => exact ⟨m + 1, by have := HM2.out; omega, by go_num, hfr.drewN _⟩
              · obtain rfl : m = L.length := by omega
                go_wp2_with fail
                go_roundg (L.length - (i + 1))
                case measure => have := HI.out; omega
                case rel => exact ⟨i + 1, by have := HI.out; omega, by go_num, hfr⟩
          · obtain rfl : i = L.length := by omega
            have hfin := hfb.tr hfr
            clear hfr
            go_wp2_with fail
            refine (known_any _).mono ?_
            rintro e w9 ⟨rfl, hf⟩
            go_wp2_with fail
            go_ret
            exact ⟨rfl, (hfin.tr hf).none_up.below (Nat.le_refl _)⟩
set_option maxRecDepth 100000 in
set_option maxHeartbeats 16000000 in
theorem serves_true (q : Qu) (s : Value) (X : Nat) (hX : X < 4294967296) (w : World) (hs : Ints w s q.s) :
    Calls Try.prog 7 #[q.v s, .bool true, .int .u32 (X : Int)] w fun e w' => e = .returned (.bool true) ∧ Below w.heap.size w w' := by
  have HM := Lib.hid (many_any q s)
  have HL := Lib.hid (leasts_any q true s)
  have H1 := Lib.hid (first_any q s X hX)
  have H2 := Lib.hid (second_any q s X hX)
  have HS := Lib.hid (Lst.of q true X hX)
  obtain ⟨w1, bq, hw1, hbq, B⟩ := Qb.start hs
  obtain ⟨IS, hIS⟩ : ∃ IS, IS = isQ q true X.testBit := ⟨_, rfl⟩
  have HIS := Lib.hid hIS
  obtain ⟨L, hLe⟩ : ∃ L, L = leastQ q true := ⟨_, rfl⟩
  rw [← hLe] at HL HS
  clear hIS hLe
  obtain ⟨k, n, o, t, l⟩ := q
  have hs0 := hs
  obtain ⟨A, c, rfl, -⟩ := hs0
  simp only [Qu.v] at HM HL H1 H2 HIS hw1 ⊢
  have HW := Lib.hid hw1
  have HB := Lib.hid hbq
  have B' := B
  obtain ⟨hfr, hbk, hit⟩ := B'
  simp only at hbk hit
  have b0 := hbk.cell 0 rfl
  have b1 := hbk.cell 1 rfl
  have b2 := hbk.cell 2 rfl
  have b3 := hbk.cell 3 rfl
  have b4 := hbk.cell 4 rfl
  clear hw1 hbq hs hfr hbk
  go_enter Try.func7, Try.ntmps7
  go_upto_region 1 with (fail)
  rw [← HW.out, ← HB.out]
  clear HW HB
  go_wp2_with fail
  refine (HM.out w1 hit).mono ?_
  rintro e w2 ⟨rfl, hf⟩
  have B := B.up hf
  clear b0 b1 b2 b3 b4 hf hit
  by_cases hl : 40 < l.length
  · rw [decide_eq_true hl]
    go_wp2_with fail
    refine (known_any w2).mono ?_
    rintro e w3 ⟨rfl, hf⟩
    go_wp2_with fail
    go_ret
    exact ⟨rfl, (B.up hf).below⟩
  rw [decide_eq_false hl]
  have hl' : l.length ≤ 1000 := by omega
  have B' := B
  obtain ⟨-, hbk, hit⟩ := B'
  simp only at hbk hit
  have b0 := hbk.cell 0 rfl
  have b1 := hbk.cell 1 rfl
  have b2 := hbk.cell 2 rfl
  have b3 := hbk.cell 3 rfl
  have b4 := hbk.cell 4 rfl
  clear hbk
  go_wp2_with fail
  refine (HL.out w2 hit hl').mono ?_
  rintro e w3 ⟨v, rfl, hrow, hf⟩
  obtain ⟨va, vc, rfl⟩ := own_sl hrow
  have B := B.up hf
  clear b0 b1 b2 b3 b4 hf hit
  have B' := B
  obtain ⟨-, hbk, hit⟩ := B'
  simp only at hbk hit
  have b0 := hbk.cell 0 rfl
  have b1 := hbk.cell 1 rfl
  have b2 := hbk.cell 2 rfl
  have b3 := hbk.cell 3 rfl
  have b4 := hbk.cell 4 rfl
  clear hbk
  go_wp2_with fail
  refine (H1.out w3 hit hl').mono ?_
  rintro e w4 ⟨rfl, hf⟩
  have B := B.up hf
  have hrow := own_fr hrow hf (fun _ _ h => h)
  clear b0 b1 b2 b3 b4 hf hit
  have B' := B
  obtain ⟨-, hbk, hit⟩ := B'
  simp only at hbk hit
  have b0 := hbk.cell 0 rfl
  have b1 := hbk.cell 1 rfl
  have b2 := hbk.cell 2 rfl
  have b3 := hbk.cell 3 rfl
  have b4 := hbk.cell 4 rfl
  clear hbk
  go_wp2_with fail
  refine (H2.out w4 hit hl').mono ?_
  rintro e w5 ⟨rfl, hf⟩
  have B := B.up hf
  have hrow := own_fr hrow hf (fun _ _ h => h)
  clear b0 b1 b2 b3 b4 hf hit
  rw [← HIS.out]
  have hlen := HS.out.len
  have HRow := Lib.hid hrow
  have hfb := B.fr
  clear hrow B
  go_wp2_with fail
  go_loopg [9, 10] L.length (fun g x9 x10 wr => ∃ (i : Nat), i + g = L.length ∧ x9 = .bool ((L.take i).any fun x => x &&& X == x) ∧ x10 = .int .i64 i ∧ Fr (fun _ => False) w5 wr)
  case atStart => exact ⟨0, by omega, rfl, rfl, Fr.refl _ _⟩
  case round =>
    obtain ⟨i, hi, rfl, rfl, hfr⟩ := hrel
    have HI := Lib.hid hi
    have hi' : i ≤ L.length := by omega
    clear hi
    by_cases hlt : i < L.length
    · obtain ⟨x, hx⟩ : ∃ x, L[i]? = some x := ⟨_, List.getElem?_eq_getElem hlt⟩
      have hrow := own_fr HRow.out hfr (fun _ _ h => h)
      obtain ⟨g, rfl, q0⟩ := own_at hrow hx
      have hx4 := HS.out.sm x (List.mem_of_getElem? hx)
      have hand : bits .and .u32 (x : Int) (X : Int) = ((x &&& X : Nat) : Int) := u32_and_nat _ _ (by omega) hX
      obtain ⟨Z, hZ⟩ : ∃ Z, Z = x &&& X := ⟨_, rfl⟩
      rw [← hZ] at hand
      have hnx := any_next (p := fun x => x &&& X == x) hx
      simp only [← hZ] at hnx
      obtain ⟨P, hP⟩ : ∃ P, P = (L.take i).any fun x => x &&& X == x := ⟨_, rfl⟩
      rw [← hP] at hnx ⊢
      have HP := Lib.hid hP
      have HX := Lib.hid hx
      have HN := Lib.hid hnx
      obtain ⟨T, hT⟩ : ∃ T, T = ((Z : Int) == (x : Int)) := ⟨_, rfl⟩
      have HT := Lib.hid hT
      have hT2 : (P || T) = (L.take (i + 1)).any fun x => x &&& X == x := by rw [hnx, hT, eq_nat]
      have HT2 := Lib.hid hT2
      have hTe : ((Z : Int) == (x : Int)) = T := hT.symm
      have hnext : ∀ wx, Fr (fun _ => False) w5 wx → ∃ i' : Nat, i' + (L.length - (i + 1)) = L.length ∧ Value.bool (P || T) = .bool ((L.take i').any fun x => x &&& X == x) ∧ Value.int .i64 ((i : Int) + 1) = .int .i64 i' ∧ Fr (fun _ => False) w5 wx :=
        fun wx h => ⟨i + 1, by omega, by rw [hT2], by simp, h⟩
      have HNext := Lib.hid hnext
      clear hP hZ hnx hT hT2 hnext hx
      go_upto_region 11 with (fail)
      cases P with
      | true =>
        go_quiet (fail)
        clear hTe hand
        by_cases hi0 : i = 0
        · subst hi0
          go_wp2_with fail
          go_quiet (fail)
          go_wp2_with fail
          go_roundg (L.length - (0 + 1))
          case measure => have := HI.out; omega
          case rel => exact HNext.out _ (hfr.drewN _)
        · obtain ⟨j, hj⟩ : ∃ j, i = j + 1 := ⟨i - 1, by omega⟩
          obtain ⟨y, hy⟩ : ∃ y, L[j]? = some y := ⟨_, List.getElem?_eq_getElem (by omega)⟩
          obtain ⟨g', hg', q1⟩ := own_at hrow hy
          injection hg' with hg'
          injection hg' with hg' _
          subst hg'
          have hyx := pair_lt HS.out.lt (show j < i by omega) hy HX.out
          have hyx' : (y : Int) < (x : Int) := by omega
          have hi1 : (0 : Int) < (i : Int) := by omega
          have hj1 : (i : Int) - 1 = (j : Int) := by omega
          have hj2 : IntKind.i64.wrap ((i : Int) - 1) = (j : Int) := by rw [hj1]; exact IntWalk.i64_in _ (by omega)
          have hjl : j < L.length := by omega
          have hi2 : 0 < i := by omega
          clear hj hy hi0
          go_wp2_with fail
          go_quiet (fail)
          go_wp2_with fail
          go_roundg (L.length - (i + 1))
          case measure => have := HI.out; omega
          case rel => exact HNext.out _ (hfr.drewN _)
      | false =>
        go_quiet (fail)
        clear hTe hand
        by_cases hi0 : i = 0
        · subst hi0
          go_wp2_with fail
          go_quiet (fail)
          go_wp2_with fail
          go_roundg (L.length - (0 + 1))
          case measure => have := HI.out; omega
          case rel => exact HNext.out _ (hfr.drewN _)
        · obtain ⟨j, hj⟩ : ∃ j, i = j + 1 := ⟨i - 1, by omega⟩
          obtain ⟨y, hy⟩ : ∃ y, L[j]? = some y := ⟨_, List.getElem?_eq_getElem (by omega)⟩
          obtain ⟨g', hg', q1⟩ := own_at hrow hy
          injection hg' with hg'
          injection hg' with hg' _
          subst hg'
          have hyx := pair_lt HS.out.lt (show j < i by omega) hy HX.out
          have hyx' : (y : Int) < (x : Int) := by omega
          have hi1 : (0 : Int) < (i : Int) := by omega
          have hj1 : (i : Int) - 1 = (j : Int) := by omega
          have hj2 : IntKind.i64.wrap ((i : Int) - 1) = (j : Int) := by rw [hj1]; exact IntWalk.i64_in _ (by omega)
          have hjl : j < L.length := by omega
          have hi2 : 0 < i := by omega
          clear hj hy hi0
          go_wp2_with fail
          go_quiet (fail)
          go_wp2_with fail
          go_roundg (L.length - (i + 1))
          case measure => have := HI.out; omega
          case rel => exact HNext.out _ (hfr.drewN _)
    · obtain rfl : i = L.length := by omega
      have hany : ((L.take L.length).any fun x => x &&& X == x) = IS := by rw [List.take_length, HS.out.any, HIS.out]
      rw [hany]
      clear hany
      by_cases h60 : 60 < L.length
      · have hcap := own_cap HRow.out (by omega)
        obtain ⟨x0, hx0⟩ : ∃ x, L[0]? = some x := ⟨_, List.getElem?_eq_getElem (by omega)⟩
        obtain ⟨g, rfl, -⟩ := own_at HRow.out hx0
        have h60' : (60 : Int) < (L.length : Int) := by omega
        clear hx0
        go_wp2_with fail
        go_loopg [11] 60 (fun g11 x11 wx => ∃ (i : Nat), i + g11 = 60 ∧ x11 = .int .i64 i ∧ Fr (fun _ => False) w5 wx)
        case atStart => exact ⟨0, by omega, rfl, hfr⟩
        case round =>
          clear hfr HI
          obtain ⟨i, hi, rfl, hfr⟩ := hrel
          have HI := Lib.hid hi
          have hi' : i ≤ 60 := by omega
          clear hi
          by_cases hlt : i < 60
          · obtain ⟨x, hx⟩ : ∃ x, L[i]? = some x := ⟨_, List.getElem?_eq_getElem (by omega)⟩
            obtain ⟨gx, hgx, q0'⟩ := own_at HRow.out hx
            injection hgx with hgx
            injection hgx with hgx _
            subst hgx
            have HX := Lib.hid hx
            have HQ0 := Lib.hid q0'
            have HF := Lib.hid hfr
            clear hx q0' hfr
            go_wp2_with fail
            go_loopg [12] 60 (fun g12 x12 wx => ∃ (m : Nat), m + g12 = 60 ∧ x12 = .int .i64 m ∧ Fr (fun _ => False) w5 wx)
            case atStart => exact ⟨0, by omega, rfl, HF.out⟩
            case round =>
              clear HF
              obtain ⟨m, hm, rfl, hfr⟩ := hrel
              have HM2 := Lib.hid hm
              have hm' : m ≤ 60 := by omega
              clear hm
              by_cases hmlt : m < 60
              · obtain ⟨y, hy⟩ : ∃ y, L[m]? = some y := ⟨_, List.getElem?_eq_getElem (by omega)⟩
                obtain ⟨g', hg', q1'⟩ := own_at HRow.out hy
                injection hg' with hg'
                injection hg' with hg' _
                subst hg'
                have q0 := hfr.cell HQ0.out (fun h => h)
                have q1 := hfr.cell q1' (fun h => h)
                by_cases him : i = m
                · subst him
                  clear q1 q1' hy
                  go_wp2_with fail
                  go_quiet (fail)
                  go_wp2_with fail
                  go_roundg (60 - (i + 1))
                  case measure => have := HM2.out; omega
                  case rel => exact ⟨i + 1, by have := HM2.out; omega, by go_num, hfr.drewN _⟩
                · have hne := pair_ne HS.out.lt him HX.out hy
                  have hap := HS.out.ap x (List.mem_of_getElem? HX.out) y (List.mem_of_getElem? hy) hne
                  have hx4 := HS.out.sm x (List.mem_of_getElem? HX.out)
                  have hy4 := HS.out.sm y (List.mem_of_getElem? hy)
                  obtain ⟨Z, hZ⟩ : ∃ Z, Z = x &&& y := ⟨_, rfl⟩
                  have hand := and_eq x y hx4 hy4
                  rw [← hZ] at hand hap
                  have hZx : ((Z : Int) == (x : Int)) = false := by rw [eq_nat]; simpa using hap
                  have him1 : ((i : Int) == (m : Int)) = false := by rw [eq_nat]; simpa using him
                  have him2 : ((i : Int) != (m : Int)) = true := by unfold bne; rw [him1]; rfl
                  have hZ2 : ¬ Z = x := hap
                  clear hZ hap hne q1' hy
                  go_wp2_with fail
                  go_quiet (fail)
                  go_wp2_with fail
                  go_roundg (60 - (m + 1))
                  case measure => have := HM2.out; omega
                  case rel => exact ⟨m + 1, by have := HM2.out; omega, by go_num, hfr.drewN _⟩
              · obtain rfl : m = 60 := by omega
                go_wp2_with fail
                go_roundg (60 - (i + 1))
                case measure => have := HI.out; omega
                case rel => exact ⟨i + 1, by have := HI.out; omega, by go_num, hfr⟩
          · obtain rfl : i = 60 := by omega
            have hfin := hfb.tr hfr
            clear hfr
            go_wp2_with fail
            refine (known_any _).mono ?_
            rintro e w9 ⟨rfl, hf⟩
            go_wp2_with fail
            go_ret
            exact ⟨rfl, (hfin.tr hf).none_up.below (Nat.le_refl _)⟩
      · have h60' : ¬ (60 : Int) < (L.length : Int) := by omega
        go_wp2_with fail
        go_loopg [11] L.length (fun g11 x11 wx => ∃ (i : Nat), i + g11 = L.length ∧ x11 = .int .i64 i ∧ Fr (fun _ => False) w5 wx)
        case atStart => exact ⟨0, by omega, rfl, hfr⟩
        case round =>
          clear hfr HI
          obtain ⟨i, hi, rfl, hfr⟩ := hrel
          have HI := Lib.hid hi
          have hi' : i ≤ L.length := by omega
          clear hi
          by_cases hlt : i < L.length
          · obtain ⟨x, hx⟩ : ∃ x, L[i]? = some x := ⟨_, List.getElem?_eq_getElem (by omega)⟩
            obtain ⟨g, rfl, q0'⟩ := own_at HRow.out hx
            have HX := Lib.hid hx
            have HQ0 := Lib.hid q0'
            have HF := Lib.hid hfr
            clear hx q0' hfr
            go_wp2_with fail
            go_loopg [12] L.length (fun g12 x12 wx => ∃ (m : Nat), m + g12 = L.length ∧ x12 = .int .i64 m ∧ Fr (fun _ => False) w5 wx)
            case atStart => exact ⟨0, by omega, rfl, HF.out⟩
            case round =>
              clear HF
              obtain ⟨m, hm, rfl, hfr⟩ := hrel
              have HM2 := Lib.hid hm
              have hm' : m ≤ L.length := by omega
              clear hm
              by_cases hmlt : m < L.length
              · obtain ⟨y, hy⟩ : ∃ y, L[m]? = some y := ⟨_, List.getElem?_eq_getElem (by omega)⟩
                obtain ⟨g', hg', q1'⟩ := own_at HRow.out hy
                injection hg' with hg'
                injection hg' with hg' _
                subst hg'
                have q0 := hfr.cell HQ0.out (fun h => h)
                have q1 := hfr.cell q1' (fun h => h)
                by_cases him : i = m
                · subst him
                  clear q1 q1' hy
                  go_wp2_with fail
                  go_quiet (fail)
                  go_wp2_with fail
                  go_roundg (L.length - (i + 1))
                  case measure => have := HM2.out; omega
                  case rel => exact ⟨i + 1, by have := HM2.out; omega, by go_num, hfr.drewN _⟩
                · have hne := pair_ne HS.out.lt him HX.out hy
                  have hap := HS.out.ap x (List.mem_of_getElem? HX.out) y (List.mem_of_getElem? hy) hne
                  have hx4 := HS.out.sm x (List.mem_of_getElem? HX.out)
                  have hy4 := HS.out.sm y (List.mem_of_getElem? hy)
                  obtain ⟨Z, hZ⟩ : ∃ Z, Z = x &&& y := ⟨_, rfl⟩
                  have hand := and_eq x y hx4 hy4
                  rw [← hZ] at hand hap
                  have hZx : ((Z : Int) == (x : Int)) = false := by rw [eq_nat]; simpa using hap
                  have him1 : ((i : Int) == (m : Int)) = false := by rw [eq_nat]; simpa using him
                  have him2 : ((i : Int) != (m : Int)) = true := by unfold bne; rw [him1]; rfl
                  have hZ2 : ¬ Z = x := hap
                  clear hZ hap hne q1' hy
                  go_wp2_with fail
                  go_quiet (fail)
                  go_wp2_with fail
                  go_roundg (L.length - (m + 1))
                  case measure => have := HM2.out; omega
                  case rel => exact ⟨m + 1, by have := HM2.out; omega, by go_num, hfr.drewN _⟩
              · obtain rfl : m = L.length := by omega
                go_wp2_with fail
                go_roundg (L.length - (i + 1))
                case measure => have := HI.out; omega
                case rel => exact ⟨i + 1, by have := HI.out; omega, by go_num, hfr⟩
          · obtain rfl : i = L.length := by omega
            have hfin := hfb.tr hfr
            clear hfr
            go_wp2_with fail
            refine (known_any _).mono ?_
            rintro e w9 ⟨rfl, hf⟩
            go_wp2_with fail
            go_ret
            exact ⟨rfl, (hfin.tr hf).none_up.below (Nat.le_refl _)⟩
theorem serves_law (q : Qu) (s : Value) (sec : Bool) (X : Nat) (hX : X < 4294967296) (w : World) (hs : Ints w s q.s) :
    Calls Try.prog 7 #[q.v s, .bool sec, .int .u32 (X : Int)] w fun e w' => e = .returned (.bool true) ∧ Below w.heap.size w w' := by
  cases sec
  · exact serves_false q s X hX w hs
  · exact serves_true q s X hX w hs
end Go.Proofs.Ytpcfeiejfomnoaa
