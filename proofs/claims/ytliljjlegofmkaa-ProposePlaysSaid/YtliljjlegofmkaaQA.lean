/- Numbers that lie somewhere; OnesCount32, Right. -/
import Derived.Test.YtliljjlegofmkaaChecked
import Derived.Test.YtliljjlegofmkaaMem
import Derived.Test.YtliljjlegofmkaaQP
import Derived.Deep.LoopGhost
import Derived.IntWalk
import Derived.Laws.BitsAllLaws
import Derived.Lib.Tables
namespace Go.Proofs.Ytliljjlegofmkaa
open Go.RowKit

def i64s (l : List Int) : List Value := l.map fun z => .int .i64 z
/-- The slice value v reads as the numbers l. -/
def Ints (w : World) (v : Value) (l : List Int) : Prop :=
  ∃ A c, v = .slice A l.length c ∧ (l ≠ [] → ∃ b off, A = some ⟨b, off, none⟩ ∧ ∀ i z, l[i]? = some z → w.cell? ⟨b, off + i, none⟩ = some (.int .i64 z))
section
variable {w w' : World} {v : Value} {l : List Int}
theorem Ints.up (h : Ints w v l) (hf : Fr (fun _ => False) w w') : Ints w' v l := by
  obtain ⟨A, c, rfl, h1⟩ := h
  refine ⟨A, c, rfl, fun hn => ?_⟩
  obtain ⟨b, off, rfl, h2⟩ := h1 hn
  exact ⟨b, off, rfl, fun i z hz => hf.cell (h2 i z hz) (fun h => h)⟩
end
/-- The struct's value. -/
def Qu.v (q : Qu) (s : Value) : Value := .agg #[.int .i64 q.k, .int .i64 q.n, .int .i64 q.o, .int .i64 q.t, s]

theorem cnt_add (m n : Nat) (p : Nat → Bool) : cnt (m + n) p = cnt m p + cnt n (fun i => p (m + i)) := by
  induction n with
  | zero => rfl
  | succ n ih => rw [show m + (n + 1) = (m + n) + 1 from rfl]; simp only [cnt]; rw [ih]; omega
theorem pop_cnt : ∀ n : Fin 256, Lib.pop8 (n.val : Int) = (cnt 8 n.val.testBit : Int) := by decide +kernel
theorem ones_tab (x : Nat) (hx : x < 4096) : Lib.pop8 ((x / 256 : Nat) : Int) + Lib.pop8 ((x % 256 : Nat) : Int) = (cnt 12 x.testBit : Int) := by
  have h1 := pop_cnt ⟨x / 256, by omega⟩
  have h2 := pop_cnt ⟨x % 256, by omega⟩
  simp only at h1 h2
  rw [h1, h2, show (12 : Nat) = 8 + 4 from rfl, cnt_add]
  have e1 : cnt 8 (x % 256).testBit = cnt 8 x.testBit := cnt_congr fun i hi => by
    rw [show (256 : Nat) = 2 ^ 8 from rfl, Nat.testBit_mod_two_pow]; simp [hi]
  have e2 : cnt 8 (x / 256).testBit = cnt 4 (fun i => x.testBit (8 + i)) := by
    rw [show (8 : Nat) = 4 + 4 from rfl, cnt_add]
    have e3 : cnt 4 (fun i => (x / 256).testBit (4 + i)) = 0 := by
      rw [cnt_congr (p' := fun _ => false) fun i hi => ?_]
      · rfl
      · exact Nat.testBit_lt_two_pow (Nat.lt_of_lt_of_le (by omega : x / 256 < 2 ^ 4) (Nat.pow_le_pow_right (by omega) (by omega)))
    rw [e3, Nat.add_zero]
    exact cnt_congr fun i hi => by rw [show (256 : Nat) = 2 ^ 8 from rfl, Nat.testBit_div_two_pow, show i + 8 = 4 + 4 + i by omega]
  rw [e1, e2]
  omega

set_option maxRecDepth 100000 in
set_option maxHeartbeats 4000000 in
theorem ones_any (x : Nat) (hx : x < 4096) (w : World) :
    Calls Try.prog 58 #[.int .u32 (x : Int)] w fun e w' => e = .returned (.int .i64 (cnt 12 x.testBit : Int)) ∧ ∃ n, w' = w.drewN n := by
  have hx' : (x : Int) < 4096 := by omega
  have b0 : bits .and .u32 (x : Int) 255 = ((x % 256 : Nat) : Int) := by
    have := u32_and_nat x 255 (by omega) (by omega)
    rw [nat_mask8] at this; exact this
  have b1 : bits .and .u32 ((x : Int) / 65536) 255 = 0 := by
    rw [show (x : Int) / 65536 = 0 by omega]; decide
  have b2 : bits .and .u32 ((x : Int) / 256) 255 = ((x / 256 : Nat) : Int) := by
    have := u32_and_nat (x / 256) 255 (by omega) (by omega)
    rw [nat_mask8, show x / 256 % 256 = x / 256 by omega] at this
    rw [← this]; rfl
  have b3 : (x : Int) / 16777216 = 0 := by omega
  have b4 : (x : Int) / 256 ≤ 255 := by omega
  have b5 : (x : Int) % 256 ≤ 255 := by omega
  have b6 : 0 ≤ (x : Int) / 256 := by omega
  have b7 : 0 ≤ (x : Int) % 256 := by omega
  have ht := ones_tab x hx
  have hc := cnt_le 12 x.testBit
  have HT := Lib.hid ht
  clear ht
  go_enter Try.func58, Try.ntmps58
  go_upto_region 1 with (fail)
  generalize hT : Value.string _ = S
  have hS : S = Value.string Lib.pop8tab := by rw [← hT]; kernel_rfl
  clear hT
  subst hS
  go_region
  all_goals go_wp2_with fail
  all_goals go_ret
  refine ⟨?_, 1, rfl⟩
  show Ending.returned (.int .i64 ((Lib.pop8 0 + Lib.pop8 0 + Lib.pop8 ((x : Int) / 256) + Lib.pop8 ((x : Int) % 256)) % 256)) = _
  have h0 : Lib.pop8 0 = 0 := by decide +kernel
  have h1 := HT.out
  rw [show (((x / 256 : Nat) : Int)) = (x : Int) / 256 from rfl, show (((x % 256 : Nat) : Int)) = (x : Int) % 256 from rfl] at h1
  rw [h0]
  congr 2
  omega

theorem bad_any (z : Int) (w : World) :
    Calls Try.prog 57 #[.int .i64 z] w fun e w' => e = .returned (.bool (badS z)) ∧ w = w' := by
  by_cases h0 : z < 0
  · go_enter Try.func57, Try.ntmps57
    go_wp2_with fail
    go_ret
    exact ⟨by simp [badS, h0], rfl⟩
  · go_enter Try.func57, Try.ntmps57
    go_wp2_with fail
    go_ret
    refine ⟨?_, rfl⟩
    show Ending.returned (.bool (decide (12 ≤ z))) = _
    simp [badS]; omega

/-- Is one of them so? -/
def IdxPost (l : List Int) (w : World) (e : Ending) (w' : World) : Prop := ∃ z : Int, e = .returned (.int .i64 z) ∧ decide (0 ≤ z) = l.any badS ∧ w = w'
set_option maxHeartbeats 4000000 in
theorem index_any (l : List Int) (s : Value) (w : World) (hs : Ints w s l) (hl : l.length ≤ 1000) :
    Calls Try.prog 64 #[s, .func (.func 57) #[] #[]] w (IdxPost l w) := by
  obtain ⟨A, c, rfl, h1⟩ := hs
  have H1 := Lib.hid h1
  clear h1
  go_enter Try.func64, Try.ntmps64
  go_wp2_with fail
  go_loopg [8] l.length (fun g x8 wr => ∃ (j : Nat), j + g = l.length ∧ x8 = .int .i64 j ∧ (l.take j).any badS = false ∧ w = wr)
  case atStart => exact ⟨0, by omega, rfl, by simp, rfl⟩
  case round =>
    obtain ⟨j, hj, rfl, hany, hww⟩ := hrel
    have HJ := Lib.hid (And.intro hj hany)
    have hj' : j ≤ l.length := by omega
    clear hj hany
    subst hww
    by_cases hlt : j < l.length
    · obtain ⟨z, hz⟩ : ∃ z, l[j]? = some z := ⟨_, List.getElem?_eq_getElem hlt⟩
      obtain ⟨b, off, rfl, h2⟩ := H1.out (by rintro rfl; simp at hlt)
      have q0 := h2 j z hz
      have ht : (l.take (j + 1)).any badS = badS z := by
        rw [List.take_add_one, hz, List.any_append, HJ.out.2]; simp
      have hm : badS z = true → l.any badS = true := fun h => by rw [List.any_eq_true]; exact ⟨z, List.mem_of_getElem? hz, h⟩
      have HT := Lib.hid (And.intro ht hm)
      clear ht hm hz h2
      go_wp2_with fail
      refine (bad_any z _).mono ?_
      rintro e w' ⟨rfl, rfl⟩
      cases hb : badS z with
      | true =>
        have HB := Lib.hid hb
        clear hb
        go_wp2_with fail
        go_ret
        exact ⟨j, rfl, by rw [HT.out.2 HB.out]; simp, rfl⟩
      | false =>
        have HB := Lib.hid hb
        clear hb
        go_wp2_with fail
        go_roundg (l.length - (j + 1))
        case measure => have := HJ.out; omega
        case rel => exact ⟨j + 1, by have := HJ.out; omega, by go_num, by rw [HT.out.1]; exact HB.out, rfl⟩
    · obtain rfl : j = l.length := by omega
      have h3 := HJ.out.2
      rw [List.take_length] at h3
      have H3 := Lib.hid h3
      clear h3
      go_wp2_with fail
      go_ret
      exact ⟨-1, rfl, by rw [H3.out]; simp, rfl⟩
theorem contains_any (l : List Int) (s : Value) (w : World) (hs : Ints w s l) (hl : l.length ≤ 1000) :
    Calls Try.prog 56 #[s, .func (.func 57) #[] #[]] w fun e w' => e = .returned (.bool (l.any badS)) ∧ w = w' := by
  have hi := index_any l s w hs hl
  obtain ⟨A, c, rfl, h1⟩ := hs
  have HI := Lib.hid hi
  clear hi h1
  go_enter Try.func56, Try.ntmps56
  go_wp2_with fail
  refine HI.out.mono ?_
  rintro e w' ⟨z, rfl, hz, rfl⟩
  have HZ := Lib.hid hz
  clear hz
  go_wp2_with fail
  go_ret
  refine ⟨?_, rfl⟩
  rw [← HZ.out]
  rfl

set_option maxRecDepth 100000 in
set_option maxHeartbeats 4000000 in
theorem right_any (q : Qu) (s : Value) (w : World) (hs : Ints w s q.s) (hl : q.s.length ≤ 1000) :
    Calls Try.prog 31 #[q.v s] w fun e w' => e = .returned (.int .i64 (rightE q)) ∧ Fr (fun _ => False) w w' := by
  obtain ⟨k, n, o, t, l⟩ := q
  have hs0 := hs
  obtain ⟨A, c, rfl, -⟩ := hs0
  have hf := (Fr.refl (fun _ => False) w).alloc (.cells #[.int .i64 k, .int .i64 n, .int .i64 o, .int .i64 t, .slice A l.length c] 24)
  have hs1 := hs.up hf
  have HF := Lib.hid (And.intro hf hs1)
  simp only [Qu.v] at hl ⊢
  clear hf hs1 hs
  by_cases h1 : n < 1
  · have e0 : rightE ⟨k, n, o, t, l⟩ = 2 := by unfold rightE; rw [if_pos (.inl h1)]
    rw [e0]
    clear e0
    go_enter Try.func31, Try.ntmps31
    go_wp2_with fail
    go_ret
    exact ⟨rfl, HF.out.1⟩
  by_cases h2 : 12 < n
  · have e0 : rightE ⟨k, n, o, t, l⟩ = 2 := by unfold rightE; rw [if_pos (.inr h2)]
    rw [e0]
    clear e0
    go_enter Try.func31, Try.ntmps31
    go_wp2_with fail
    go_ret
    exact ⟨rfl, HF.out.1⟩
  by_cases k3 : k = 3
  · subst k3
    have hd : o < 1 ∨ (1 ≤ o ∧ n < o) ∨ (1 ≤ o ∧ o ≤ n ∧ t < 1) ∨ (1 ≤ o ∧ o ≤ n ∧ 1 ≤ t ∧ n < t) ∨ (1 ≤ o ∧ o ≤ n ∧ 1 ≤ t ∧ t ≤ n) := by omega
    rcases hd with c1 | ⟨c1, c2⟩ | ⟨c1, c2, c3⟩ | ⟨c1, c2, c3, c4⟩ | ⟨c1, c2, c3, c4⟩
    all_goals
      by_cases hn : (l.length : Int) = n
      · have hn' : ((l.length : Int) == n) = true := by simp [hn]
        cases hb : l.any badS with
        | true =>
          have e0 : rightE ⟨3, n, o, t, l⟩ = 2 := by unfold rightE; rw [if_neg (by simp only; omega), if_neg (by simp), if_neg (by simp), if_pos rfl, hb]; simp
          have HB := Lib.hid hb
          rw [e0]
          clear e0 hb hn
          go_enter Try.func31, Try.ntmps31
          go_wp2_with fail
          refine (contains_any l _ _ HF.out.2 (by omega)).mono ?_
          rintro e w' ⟨rfl, rfl⟩
          rw [HB.out]
          go_wp2_with fail
          go_ret
          exact ⟨rfl, HF.out.1⟩
        | false =>
          have e0 : rightE ⟨3, n, o, t, l⟩ = 0 := by unfold rightE; rw [if_neg (by simp only; omega), if_neg (by simp), if_neg (by simp), if_pos rfl, hb]; simp [hn]
          have HB := Lib.hid hb
          rw [e0]
          clear e0 hb hn
          go_enter Try.func31, Try.ntmps31
          go_wp2_with fail
          refine (contains_any l _ _ HF.out.2 (by omega)).mono ?_
          rintro e w' ⟨rfl, rfl⟩
          rw [HB.out]
          go_wp2_with fail
          go_ret
          exact ⟨rfl, HF.out.1⟩
      · have hn' : ((l.length : Int) == n) = false := by simp [hn]
        have e0 : rightE ⟨3, n, o, t, l⟩ = 2 := by unfold rightE; rw [if_neg (by simp only; omega), if_neg (by simp), if_neg (by simp), if_pos rfl]; simp [hn]
        rw [e0]
        clear e0 hn
        go_enter Try.func31, Try.ntmps31
        go_wp2_with fail
        go_ret
        exact ⟨rfl, HF.out.1⟩
  have k3' : (k == 3) = false := by simp [k3]
  by_cases hc : 1 ≤ o ∧ o ≤ n ∧ 1 ≤ t ∧ t ≤ n
  · have hcc : cts ⟨k, n, o, t, l⟩ = true := by simp [cts, hc]
    obtain ⟨c1, c2, c3, c4⟩ := hc
    by_cases k1 : k = 1
    · subst k1
      by_cases hm : o + t ≤ n
      · have e0 : rightE ⟨1, n, o, t, l⟩ = 80 := by unfold rightE; rw [if_neg (by simp only; omega), if_pos rfl, hcc, if_pos rfl, if_pos hm]
        rw [e0]
        clear e0 hcc
        go_enter Try.func31, Try.ntmps31
        go_wp2_with fail
        go_ret
        exact ⟨rfl, HF.out.1⟩
      · have e0 : rightE ⟨1, n, o, t, l⟩ = 0 := by unfold rightE; rw [if_neg (by simp only; omega), if_pos rfl, hcc, if_pos rfl, if_neg hm]
        rw [e0]
        clear e0 hcc
        go_enter Try.func31, Try.ntmps31
        go_wp2_with fail
        go_ret
        exact ⟨rfl, HF.out.1⟩
    have k1' : (k == 1) = false := by simp [k1]
    by_cases k2 : k = 2
    · subst k2
      have hm0 : o * t ≤ 144 := Int.le_trans (Int.mul_le_mul (show o ≤ 12 by omega) (show t ≤ 12 by omega) (by omega) (by omega)) (by omega)
      have hm1 : 0 ≤ o * t := Int.mul_nonneg (by omega) (by omega)
      have hm2 : IntKind.i64.wrap (o * t) = o * t := IntWalk.i64_in _ (by omega)
      by_cases hm : o * t = n
      · have e0 : rightE ⟨2, n, o, t, l⟩ = 0 := by unfold rightE; rw [if_neg (by simp only; omega), if_neg (by simp), if_pos rfl, hcc]; simp [hm]
        have hm' : (o * t == n) = true := by simp [hm]
        rw [e0]
        clear e0 hcc hm
        go_enter Try.func31, Try.ntmps31
        go_wp2_with fail
        go_ret
        exact ⟨rfl, HF.out.1⟩
      · have e0 : rightE ⟨2, n, o, t, l⟩ = 2 := by unfold rightE; rw [if_neg (by simp only; omega), if_neg (by simp), if_pos rfl, hcc]; simp [hm]
        have hm' : (o * t == n) = false := by simp [hm]
        rw [e0]
        clear e0 hcc hm
        go_enter Try.func31, Try.ntmps31
        go_wp2_with fail
        go_ret
        exact ⟨rfl, HF.out.1⟩
    have k2' : (k == 2) = false := by simp [k2]
    have e0 : rightE ⟨k, n, o, t, l⟩ = 2 := by unfold rightE; rw [if_neg (by simp only; omega), if_neg k1, if_neg k2, if_neg k3]
    rw [e0]
    clear e0 hcc k1 k2 k3
    go_enter Try.func31, Try.ntmps31
    go_wp2_with fail
    go_ret
    exact ⟨rfl, HF.out.1⟩
  · have hcc : cts ⟨k, n, o, t, l⟩ = false := by simp only [cts, decide_eq_false_iff_not]; exact hc
    have e0 : rightE ⟨k, n, o, t, l⟩ = 2 := by
      unfold rightE
      rw [if_neg (by simp only; omega), hcc, if_neg k3]
      simp
    rw [e0]
    clear e0 hcc
    have hd : o < 1 ∨ (1 ≤ o ∧ n < o) ∨ (1 ≤ o ∧ o ≤ n ∧ t < 1) ∨ (1 ≤ o ∧ o ≤ n ∧ 1 ≤ t ∧ n < t) := by omega
    clear hc
    by_cases k1 : k = 1
    · subst k1
      clear k3
      rcases hd with c1 | ⟨c1, c2⟩ | ⟨c1, c2, c3⟩ | ⟨c1, c2, c3, c4⟩
      all_goals
        go_enter Try.func31, Try.ntmps31
        go_wp2_with fail
        go_ret
        exact ⟨rfl, HF.out.1⟩
    have k1' : (k == 1) = false := by simp [k1]
    by_cases k2 : k = 2
    · subst k2
      clear k3
      rcases hd with c1 | ⟨c1, c2⟩ | ⟨c1, c2, c3⟩ | ⟨c1, c2, c3, c4⟩
      all_goals
        go_enter Try.func31, Try.ntmps31
        go_wp2_with fail
        go_ret
        exact ⟨rfl, HF.out.1⟩
    have k2' : (k == 2) = false := by simp [k2]
    clear k1 k2 k3
    rcases hd with c1 | ⟨c1, c2⟩ | ⟨c1, c2, c3⟩ | ⟨c1, c2, c3, c4⟩
    all_goals
      go_enter Try.func31, Try.ntmps31
      go_wp2_with fail
      go_ret
      exact ⟨rfl, HF.out.1⟩
end Go.Proofs.Ytliljjlegofmkaa
