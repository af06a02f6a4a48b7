/- ProposeNeeds. -/
import Derived.Test.YtliljjlegofmkaaPT
import Derived.Test.YtliljjlegofmkaaPU
import Derived.Test.YtliljjlegofmkaaPV
import Derived.Test.YtliljjlegofmkaaQU
import Derived.Deep.LoopGhost
import Derived.Lib.SlBytesConst
namespace Go.Proofs.Ytliljjlegofmkaa
open Go.RowKit

theorem Ints.keep {W w : World} {v : Value} {l : List Int} (h : Ints W v l) (hf : Fr (fun k => W.heap.size ≤ k) W w) : Ints w v l := by
  obtain ⟨A, c, rfl, h1⟩ := h
  refine ⟨A, c, rfl, fun hn => ?_⟩
  obtain ⟨b, off, rfl, h2⟩ := h1 hn
  refine ⟨b, off, rfl, fun i z hz => hf.cell (h2 i z hz) ?_⟩
  have : b < W.heap.size := World.block_lt_of_cell? W _ (h2 i z hz)
  show ¬ W.heap.size ≤ b
  omega

def needP (q : Qu) (x : Nat) : Ps := ⟨q, 1, 0, 7, x, fun _ => none, fun _ => none⟩
def inN (q : Qu) (a : Int) : Bool := decide (0 ≤ a ∧ a < q.n)
def orN (q : Qu) (x : Nat) (a : Int) : Nat := if inN q a then x ||| 2 ^ a.toNat else x
theorem or_had {x i : Nat} (h : x.testBit i = true) : x ||| 2 ^ i = x := by
  apply Nat.eq_of_testBit_eq
  intro j
  rw [Nat.testBit_or, Nat.testBit_two_pow]
  by_cases hj : i = j
  · subst hj; simp [h]
  · simp [hj]
theorem need_prmE (q : Qu) (x : Nat) (a : Int) : prmE (needP q x) a [] = if inN q a then 0 else 2 := by
  unfold prmE
  show (if inN q a then (if rightV _ _ _ [] then (0 : Int) else 91) else 2) = _
  rfl
theorem need_prm (q : Qu) (x : Nat) (a : Int) : prmP (needP q x) a [] = needP q (orN q x a) := by
  unfold prmP orN
  rw [need_prmE]
  cases h : inN q a with
  | false => simp
  | true =>
    cases ht : x.testBit a.toNat with
    | true => rw [if_neg (by simp [needP, ht]), if_pos rfl, or_had ht]
    | false => rw [if_pos ⟨rfl, ht⟩, if_pos rfl]; rfl
def chP (q : Qu) (x y : Nat) : Ps := { needP q x with sl := upd (fun _ => none) 7 (⟨7, 1, 0, [118]⟩, y) }
theorem need_ready (q : Qu) (x : Nat) : readyB (needP q x) = isQ q false x.testBit := rfl
theorem need_six (q : Qu) (x : Nat) : proE (needP q x) 6 [] = (if isQ q false x.testBit then 2 else 100) ∧ proP (needP q x) 6 [] = needP q x ∧ proV (needP q x) 6 [] = ⟨0, 0, 0, []⟩ := by
  have e : proE (needP q x) 6 [] = if isQ q false x.testBit then 2 else 100 := by
    unfold proE
    rw [need_ready]
    cases isQ q false x.testBit <;> rfl
  refine ⟨e, ?_, ?_⟩
  · unfold proP; rw [e, if_neg (by split <;> simp)]
  · unfold proV; rw [e, if_neg (by split <;> simp)]
theorem need_yes (q : Qu) (x : Nat) (h : isQ q false x.testBit = true) : proE (needP q x) 7 [118] = 0 ∧ proP (needP q x) 7 [118] = chP q x 0 ∧ proV (needP q x) 7 [118] = ⟨7, 1, 0, [118]⟩ := by
  have e : proE (needP q x) 7 [118] = 0 := by
    unfold proE
    rw [need_ready, h]
    rfl
  refine ⟨e, ?_, ?_⟩
  · unfold proP; rw [e, if_pos rfl]; rfl
  · unfold proV; rw [e, if_pos rfl]; rfl
theorem need_no (q : Qu) (x : Nat) (h : isQ q false x.testBit = false) : proE (needP q x) 7 [118] = 100 ∧ proP (needP q x) 7 [118] = needP q x ∧ proV (needP q x) 7 [118] = ⟨0, 0, 0, []⟩ := by
  have e : proE (needP q x) 7 [118] = 100 := by
    unfold proE
    rw [need_ready, h]
    rfl
  refine ⟨e, ?_, ?_⟩
  · unfold proP; rw [e, if_neg (by simp)]
  · unfold proV; rw [e, if_neg (by simp)]
theorem need_acc0 (q : Qu) (x : Nat) (h : 1 ≤ q.n) : accE (needP q x) 0 7 = 4 := by
  unfold accE
  rw [if_pos (by simp [nodeB, needP]; omega)]
  rfl
theorem ch_accE (q : Qu) (x y : Nat) (a : Int) : accE (chP q x y) a 7 = if inN q a then 0 else 2 := by
  unfold accE
  show (if inN q a then _ else _) = _
  rfl
theorem ch_acc (q : Qu) (x y : Nat) (a : Int) : accP (chP q x y) a 7 = chP q x (orN q y a) := by
  unfold accP orN
  show (if inN q a then _ else _) = _
  cases inN q a with
  | false => rfl
  | true =>
    simp only [if_true]
    unfold chP
    simp only [upd, if_true]
    congr 1
    funext j
    show (if j = 7 then _ else (if j = 7 then _ else _)) = if j = 7 then _ else _
    split <;> rfl
theorem ch_ch (q : Qu) (x y : Nat) : chB (chP q x y) 7 = if isQ q true y.testBit then some [118] else none := rfl
theorem ch_not (q : Qu) (x y k : Nat) (h : k ≠ 7) : isCh (chP q x y) k = false := by
  unfold isCh chB chP upd
  simp [h]
theorem ch_pre (q : Qu) (x y : Nat) : PreAt (chP q x y) (if isQ q true y.testBit then 8 else 7) := by
  cases h : isQ q true y.testBit with
  | true =>
    refine ⟨by show 7 ≤ 8; omega, fun j h1 h2 => ?_, ch_not _ _ _ _ (by simp)⟩
    have h1 : 7 ≤ j := h1
    have h2 : j < 8 := h2
    obtain rfl : j = 7 := by omega
    unfold isCh
    rw [ch_ch, h]
    rfl
  | false =>
    refine ⟨Nat.le_refl _, fun j h1 h2 => ?_, ?_⟩
    · have h1 : 7 ≤ j := h1
      have h2 : j < 7 := h2
      omega
    · show isCh _ 7 = false
      unfold isCh
      rw [ch_ch, h]
      rfl
theorem ch_pre_t (q : Qu) (x y : Nat) (h : isQ q true y.testBit = true) : PreAt (chP q x y) 8 := by
  have := ch_pre q x y
  rwa [h] at this
theorem ch_pre_f (q : Qu) (x y : Nat) (h : isQ q true y.testBit = false) : PreAt (chP q x y) 7 := by
  have := ch_pre q x y
  rwa [h] at this

/-- The law's proposer, and its system in a block of the law's own. -/
structure NeR (W w : World) (r bq : Nat) (q : Qu) (s : Value) (p : Ps) (c : Nat) (G : Nat → Prop) : Prop where
  l : Lw W w r p c G
  b : Blk w bq 24 #[.int .i64 q.k, .int .i64 q.n, .int .i64 q.o, .int .i64 q.t, s]
  n : ¬ G bq
section
variable {W w w' : World} {r bq c c' : Nat} {q : Qu} {s : Value} {p p' : Ps} {G G' : Nat → Prop}
theorem NeR.up (h : NeR W w r bq q s p c G) (hf : Fr (fun _ => False) w w') : NeR W w' r bq q s p c G := ⟨h.l.up hf, h.b.fr hf (fun h => h), h.n⟩
theorem NeR.next (h : NeR W w r bq q s p c G) (hl : Lw W w' r p' c' G') (hn : Nx G G' w w') (hf : Fr G w w') : NeR W w' r bq q s p' c' G' := ⟨hl, h.b.fr hf h.n, hn.not h.n h.b.lt⟩
theorem NeR.it (h : NeR W w r bq q s p c G) {l : List Int} (hs : Ints W s l) : Ints w s l := hs.keep h.l.fr
theorem NeR.end_ (h : NeR W w r bq q s p c G) (hf : Fr (fun _ => False) w w') : Below W.heap.size W w' := h.l.none_ hf
theorem NeR.mono (h : NeR W w r bq q s p c G) (hc : c ≤ c') : NeR W w r bq q s p c' G := ⟨h.l.mono hc, h.b, h.n⟩
end
theorem qn12 {q : Qu} (h : rightE q = 0) : 1 ≤ q.n ∧ q.n ≤ 12 := by
  have := (ok_of h).n
  omega

set_option maxRecDepth 100000 in
set_option maxHeartbeats 16000000 in
theorem needs_law (q : Qu) (s v1 v2 : Value) (l1 l2 : List Int) (W : World) (hs : Ints W s q.s) (hnil : ∀ c, s = .slice none 0 c → c = 0) (h1 : Ints W v1 l1) (hm1 : l1.length ≤ maxLen) (h2 : Ints W v2 l2) (hm2 : l2.length ≤ maxLen) :
    Calls Try.prog 5 #[q.v s, v1, v2] W fun e w' => e = .returned (.bool true) ∧ Below W.heap.size W w' := by
  unfold maxLen at hm1 hm2
  have HR := Lib.hid (rright_any q s)
  have HI1 := Lib.hid (fun X hX w hw hl => ris_any q false s X hX w hw hl)
  have HI2 := Lib.hid (fun X hX w hw hl => ris_any q true s X hX w hw hl)
  have HS := Lib.hid hs
  have HNil := Lib.hid hnil
  obtain ⟨E, hE⟩ : ∃ E, E = rightE q := ⟨_, rfl⟩
  obtain ⟨w1, hw1⟩ : ∃ w1, w1 = W.alloc (.cells #[.int .i64 q.k, .int .i64 q.n, .int .i64 q.o, .int .i64 q.t, s] 24) := ⟨_, rfl⟩
  have hf1 : Fr (fun _ => False) W w1 := by rw [hw1]; exact (Fr.refl _ W).alloc _
  have hB : Blk w1 W.heap.size 24 #[.int .i64 q.k, .int .i64 q.n, .int .i64 q.o, .int .i64 q.t, s] := by rw [hw1]; exact Blk.new _ _ _
  obtain ⟨bq, hbq⟩ : ∃ bq, bq = W.heap.size := ⟨_, rfl⟩
  rw [← hbq] at hB
  rw [← hE] at HR
  have HE := Lib.hid hE
  clear hE hnil
  obtain ⟨k, n, o, t, l⟩ := q
  obtain ⟨A, c, rfl, -⟩ := hs
  obtain ⟨A1, c1, rfl, hc1⟩ := h1
  obtain ⟨A2, c2, rfl, hc2⟩ := h2
  simp only [Qu.v] at HR HI1 HI2 HE HS hw1 hB ⊢
  have HC1 := Lib.hid hc1
  have HC2 := Lib.hid hc2
  have HW := Lib.hid hw1
  have HBQ := Lib.hid hbq
  have hB2 := hB.lt
  have b4 := hB.cell 4 rfl
  have b0 := hB.cell 0 rfl
  have b1 := hB.cell 1 rfl
  have b2 := hB.cell 2 rfl
  have b3 := hB.cell 3 rfl
  clear hw1 hbq hc1 hc2
  have kc := fun (w : World) (C : Array Value) (n c : Nat) => Lib.run_convert_bytes_const (P := Try.prog) w 35 5 C n c Try.underlying35 Try.underlying5
  go_enter Try.func5, Try.ntmps5
  go_upto_region 1 with (fail)
  rw [← HW.out, ← HBQ.out]
  clear HW
  by_cases hl : 40 < l.length
  · have hl' : (40 : Int) < (l.length : Int) := by omega
    go_wp2_with fail
    refine (known_any w1).mono ?_
    rintro e w3 ⟨rfl, hf⟩
    go_wp2_with fail
    go_ret
    exact ⟨rfl, ((hf1.tr hf).none_up).below (Nat.le_refl _)⟩
  have hl' : ¬ (40 : Int) < (l.length : Int) := by omega
  go_wp2_with fail
  refine (HR.out w1 (HS.out.keep hf1.none_up) (by omega)).mono ?_
  rintro e w2 ⟨rfl, hf2⟩
  have hf12 := hf1.tr hf2
  have hB2' := hB.fr hf2 (fun h => h)
  clear b0 b1 b2 b3 b4 hB hf2
  by_cases hE0 : ¬ E = 0
  · have hE1 : (E != 0) = true := by simp [hE0]
    go_wp2_with fail
    refine (known_any w2).mono ?_
    rintro e w3 ⟨rfl, hf⟩
    go_wp2_with fail
    go_ret
    exact ⟨rfl, ((hf12.tr hf).none_up).below (Nat.le_refl _)⟩
  have hE0 : E = 0 := by omega
  subst hE0
  have b0 := hB2'.cell 0 rfl
  have b1 := hB2'.cell 1 rfl
  have b2 := hB2'.cell 2 rfl
  have b3 := hB2'.cell 3 rfl
  have b4 := hB2'.cell 4 rfl
  go_wp2_with fail
  refine (new_lw W w2 hf12.none_up ⟨k, n, o, t, l⟩ _ 1 0 7 (HS.out.keep hf12.none_up) HNil.out (by show l.length ≤ 1000; omega) HE.out.symm (by decide) (by omega) (by omega) (by omega)).mono ?_
  rintro e w3 ⟨r, G, rfl, hL, hf3, hge⟩
  have hN : NeR W w3 r bq ⟨k, n, o, t, l⟩ (.slice A l.length c) (needP ⟨k, n, o, t, l⟩ 0) 0 G := ⟨hL, hB2'.fr hf3 (fun h => h), fun h => by have := hge _ h; have := hB2'.lt; omega⟩
  clear b0 b1 b2 b3 b4 hB2' hL hf3 hge hf12 hf1 hB2
  go_wp2_with fail
  have HM1 := Lib.hid hm1
  have HM2 := Lib.hid hm2
  go_loopg [9, 10] l1.length (fun g x9 x10 wr => ∃ (j x cc : Nat) (G : Nat → Prop), j + g = l1.length ∧ x10 = .int .i64 j ∧ x9 = .int .u32 x ∧ NeR W wr r bq ⟨k, n, o, t, l⟩ (.slice A l.length c) (needP ⟨k, n, o, t, l⟩ x) cc G ∧ cc ≤ j ∧ cc ≤ 40)
  case atStart => exact ⟨0, 0, 0, G, by omega, rfl, rfl, hN, Nat.le_refl _, by omega⟩
  case round =>
    clear hN G
    obtain ⟨j, x, cc, G, hj, rfl, rfl, hN, hcj, hc40⟩ := hrel
    have HJ := Lib.hid hj
    have hj' : j ≤ l1.length := by omega
    have hx12 : x < 4096 := hN.l.pr.wf.st
    have hn12 : 1 ≤ n ∧ n ≤ 12 := qn12 (q := ⟨k, n, o, t, l⟩) HE.out.symm
    clear hj
    by_cases hlt : j < l1.length ∧ j < 30
    · obtain ⟨hlt, hlt2⟩ := hlt
      obtain ⟨a, ha⟩ : ∃ a, l1[j]? = some a := ⟨_, List.getElem?_eq_getElem hlt⟩
      obtain ⟨b, off, rfl, hcell⟩ := HC1.out (by intro e; rw [e] at hlt; simp at hlt)
      have hlo : b < W.heap.size := World.block_lt_of_cell? W _ (hcell j a ha)
      have q0 : wr.cell? ⟨b, off + j, none⟩ = some (.int .i64 a) := hN.l.fr.cell (hcell j a ha) (by show ¬ W.heap.size ≤ b; omega)
      have HCell := Lib.hid (hcell j a ha)
      have HLo := Lib.hid hlo
      clear hcell ha hlo
      go_wp2_with fail
      refine (prm_lw0 hN.l a (by unfold maxLen; omega)).mono ?_
      rintro e w4 ⟨rfl, G4, hL4, hX4, hf4⟩
      rw [need_prm] at hL4
      rw [need_prmE]
      have hN4 := hN.next hL4 hX4 hf4
      clear hL4 hX4 hf4 hN q0
      have q0 : w4.cell? ⟨b, off + j, none⟩ = some (.int .i64 a) := hN4.l.fr.cell HCell.out (by show ¬ W.heap.size ≤ b; have := HLo.out; omega)
      have b1 : w4.cell? ⟨bq, 1, none⟩ = some (.int .i64 n) := hN4.b.cell 1 rfl
      have hin : inN ⟨k, n, o, t, l⟩ a = decide (0 ≤ a ∧ a < n) := rfl
      have HN4 := Lib.hid hN4
      clear hN4
      obtain ⟨X, hX⟩ : ∃ X, X = orN ⟨k, n, o, t, l⟩ x a := ⟨_, rfl⟩
      have hX12 : X < 4096 := by rw [hX]; exact HN4.out.l.pr.wf.st
      rw [← hX] at HN4
      rcases (by omega : a < 0 ∨ (0 ≤ a ∧ n ≤ a) ∨ (0 ≤ a ∧ a < n)) with h | h | h
      · rw [hin, decide_eq_false (by omega)]
        have HX := Lib.hid (show X = x by rw [hX]; unfold orN; rw [hin, decide_eq_false (by omega)]; rfl)
        have h0 : decide (0 ≤ a) = false := by simp; omega
        have hj0 : (0 : Int) ≤ (j : Int) := by omega
        have hj1 : (j : Int) < (l1.length : Int) := by omega
        clear hin hX h
        go_upto_region 11 with (fail)
        go_quiet (fail)
        have hN5 := HN4.out.up ((Fr.refl (fun _ => False) w4).drewN nq)
        obtain ⟨w5, hw5⟩ : ∃ w5, w5 = w4.drewN nq := ⟨_, rfl⟩
        rw [← hw5] at hN5 ⊢
        clear hw5 q0 b1 h0
        go_wp2_with fail
        rw [HX.out] at hN5 hX12
        obtain ⟨h61, h62, h63⟩ := need_six ⟨k, n, o, t, l⟩ x
        refine (pro_lw hN5.l 6 (by omega) _ [] (by unfold maxLen; omega) (byt_nil w5)).mono ?_
        rintro e w6 ⟨va, vc, G6, rfl, -, hL6, hX6, -, hf6⟩
        rw [h61, h63]
        rw [h62] at hL6
        simp only [vtV, List.length_nil]
        have hN6 := hN5.next hL6 hX6 hf6
        clear h61 h62 h63 hL6 hX6 hf6 hN5
        obtain ⟨w7, hw7⟩ : ∃ w7, w7 = w6.alloc (.cells #[.int .u64 0, .int .u64 0, .int .i64 0, .slice va 0 vc] 45) := ⟨_, rfl⟩
        have hN7 := hN6.up (show Fr (fun _ => False) w6 w7 by rw [hw7]; exact (Fr.refl _ w6).alloc _)
        have HW7 := Lib.hid hw7
        clear hw7 hN6
        cases hq : isQ ⟨k, n, o, t, l⟩ false (x).testBit
        all_goals
          have HQ := Lib.hid hq
          clear hq
          first | rw [if_pos rfl] | rw [if_neg (by simp)]
          go_upto_region 17 with (fail)
          rw [← HW7.out]
          have b0 := hN7.b.cell 0 rfl
          have b1 := hN7.b.cell 1 rfl
          have b2 := hN7.b.cell 2 rfl
          have b3 := hN7.b.cell 3 rfl
          have b4 := hN7.b.cell 4 rfl
          go_wp2_with fail
          refine (HI1.out (x) (by omega) w7 (hN7.it HS.out) (by omega)).mono ?_
          rintro e w8 ⟨rfl, hf8⟩
          rw [HQ.out]
          have hN8 := hN7.up hf8
          clear b0 b1 b2 b3 b4 hf8
          go_wp2_with fail
          refine (ready_any r _ _ _ w8 hN8.l.pr).mono ?_
          rintro e w9 ⟨rfl, hf9⟩
          rw [need_ready, HQ.out]
          have hN9 := hN8.up hf9
          clear hN7 hN8 hf9 HW7
          go_wp2_with fail
          go_roundg (l1.length - (j + 1))
          case measure => have := HJ.out; omega
          case rel => exact ⟨j + 1, x, cc + 1, G6, by have := HJ.out; omega, by go_num, rfl, hN9, by omega, by omega⟩
      · rw [hin, decide_eq_false (by omega)]
        have HX := Lib.hid (show X = x by rw [hX]; unfold orN; rw [hin, decide_eq_false (by omega)]; rfl)
        have h0 : decide (0 ≤ a) = true := by simp; omega
        have h0' : 0 ≤ a := by omega
        have h1 : decide (a < n) = false := by simp; omega
        have hj0 : (0 : Int) ≤ (j : Int) := by omega
        have hj1 : (j : Int) < (l1.length : Int) := by omega
        clear hin hX h
        go_upto_region 11 with (fail)
        go_quiet (fail)
        have hN5 := HN4.out.up ((Fr.refl (fun _ => False) w4).drewN nq)
        obtain ⟨w5, hw5⟩ : ∃ w5, w5 = w4.drewN nq := ⟨_, rfl⟩
        rw [← hw5] at hN5 ⊢
        clear hw5 q0 b1 h0 h0' h1
        go_wp2_with fail
        rw [HX.out] at hN5 hX12
        obtain ⟨h61, h62, h63⟩ := need_six ⟨k, n, o, t, l⟩ x
        refine (pro_lw hN5.l 6 (by omega) _ [] (by unfold maxLen; omega) (byt_nil w5)).mono ?_
        rintro e w6 ⟨va, vc, G6, rfl, -, hL6, hX6, -, hf6⟩
        rw [h61, h63]
        rw [h62] at hL6
        simp only [vtV, List.length_nil]
        have hN6 := hN5.next hL6 hX6 hf6
        clear h61 h62 h63 hL6 hX6 hf6 hN5
        obtain ⟨w7, hw7⟩ : ∃ w7, w7 = w6.alloc (.cells #[.int .u64 0, .int .u64 0, .int .i64 0, .slice va 0 vc] 45) := ⟨_, rfl⟩
        have hN7 := hN6.up (show Fr (fun _ => False) w6 w7 by rw [hw7]; exact (Fr.refl _ w6).alloc _)
        have HW7 := Lib.hid hw7
        clear hw7 hN6
        cases hq : isQ ⟨k, n, o, t, l⟩ false (x).testBit
        all_goals
          have HQ := Lib.hid hq
          clear hq
          first | rw [if_pos rfl] | rw [if_neg (by simp)]
          go_upto_region 17 with (fail)
          rw [← HW7.out]
          have b0 := hN7.b.cell 0 rfl
          have b1 := hN7.b.cell 1 rfl
          have b2 := hN7.b.cell 2 rfl
          have b3 := hN7.b.cell 3 rfl
          have b4 := hN7.b.cell 4 rfl
          go_wp2_with fail
          refine (HI1.out (x) (by omega) w7 (hN7.it HS.out) (by omega)).mono ?_
          rintro e w8 ⟨rfl, hf8⟩
          rw [HQ.out]
          have hN8 := hN7.up hf8
          clear b0 b1 b2 b3 b4 hf8
          go_wp2_with fail
          refine (ready_any r _ _ _ w8 hN8.l.pr).mono ?_
          rintro e w9 ⟨rfl, hf9⟩
          rw [need_ready, HQ.out]
          have hN9 := hN8.up hf9
          clear hN7 hN8 hf9 HW7
          go_wp2_with fail
          go_roundg (l1.length - (j + 1))
          case measure => have := HJ.out; omega
          case rel => exact ⟨j + 1, x, cc + 1, G6, by have := HJ.out; omega, by go_num, rfl, hN9, by omega, by omega⟩
      · rw [hin, decide_eq_true h]
        obtain ⟨y, rfl⟩ := Int.eq_ofNat_of_zero_le h.1
        have hy12 : y < 12 := by omega
        have HX := Lib.hid (show X = x ||| 2 ^ y by rw [hX]; unfold orN; rw [hin, decide_eq_true h]; rfl)
        have h0 : decide (0 ≤ (y : Int)) = true := by simp
        have h1 : decide ((y : Int) < n) = true := by simp; omega
        have h1' : (y : Int) < n := by omega
        have hj0 : (0 : Int) ≤ (j : Int) := by omega
        have hj1 : (j : Int) < (l1.length : Int) := by omega
        clear hin hX h
        go_upto_region 11 with (fail)
        go_quiet (fail)
        have hN5 := HN4.out.up ((Fr.refl (fun _ => False) w4).drewN nq)
        obtain ⟨w5, hw5⟩ : ∃ w5, w5 = w4.drewN nq := ⟨_, rfl⟩
        rw [← hw5] at hN5 ⊢
        have q0' : w5.cell? ⟨b, off + j, none⟩ = some (.int .i64 (y : Int)) := by rw [hw5]; exact q0
        clear hw5 q0 b1 h0 h1 h1'
        go_wp2_with fail
        rw [or_bit x y hx12 hy12, ← HX.out]
        clear q0'
        obtain ⟨h61, h62, h63⟩ := need_six ⟨k, n, o, t, l⟩ X
        refine (pro_lw hN5.l 6 (by omega) _ [] (by unfold maxLen; omega) (byt_nil w5)).mono ?_
        rintro e w6 ⟨va, vc, G6, rfl, -, hL6, hX6, -, hf6⟩
        rw [h61, h63]
        rw [h62] at hL6
        simp only [vtV, List.length_nil]
        have hN6 := hN5.next hL6 hX6 hf6
        clear h61 h62 h63 hL6 hX6 hf6 hN5
        obtain ⟨w7, hw7⟩ : ∃ w7, w7 = w6.alloc (.cells #[.int .u64 0, .int .u64 0, .int .i64 0, .slice va 0 vc] 45) := ⟨_, rfl⟩
        have hN7 := hN6.up (show Fr (fun _ => False) w6 w7 by rw [hw7]; exact (Fr.refl _ w6).alloc _)
        have HW7 := Lib.hid hw7
        clear hw7 hN6
        cases hq : isQ ⟨k, n, o, t, l⟩ false (X).testBit
        all_goals
          have HQ := Lib.hid hq
          clear hq
          first | rw [if_pos rfl] | rw [if_neg (by simp)]
          go_upto_region 17 with (fail)
          rw [← HW7.out]
          have b0 := hN7.b.cell 0 rfl
          have b1 := hN7.b.cell 1 rfl
          have b2 := hN7.b.cell 2 rfl
          have b3 := hN7.b.cell 3 rfl
          have b4 := hN7.b.cell 4 rfl
          go_wp2_with fail
          refine (HI1.out (X) (by omega) w7 (hN7.it HS.out) (by omega)).mono ?_
          rintro e w8 ⟨rfl, hf8⟩
          rw [HQ.out]
          have hN8 := hN7.up hf8
          clear b0 b1 b2 b3 b4 hf8
          go_wp2_with fail
          refine (ready_any r _ _ _ w8 hN8.l.pr).mono ?_
          rintro e w9 ⟨rfl, hf9⟩
          rw [need_ready, HQ.out]
          have hN9 := hN8.up hf9
          clear hN7 hN8 hf9 HW7
          go_wp2_with fail
          go_roundg (l1.length - (j + 1))
          case measure => have := HJ.out; omega
          case rel => exact ⟨j + 1, X, cc + 1, G6, by have := HJ.out; omega, by go_num, rfl, hN9, by omega, by omega⟩
    · have hcs : (j < l1.length ∧ ¬ (j : Int) < 30) ∨ ¬ (j < l1.length) := by omega
      rcases hcs with ⟨ha, hb⟩ | ha
      all_goals
        obtain ⟨w4, hw4⟩ : ∃ w4, w4 = wr.alloc (.cells #[.int .u8 118] 5 (1, 2)) := ⟨_, rfl⟩
        have hb4 : Byt w4 (.slice (some ⟨wr.heap.size, 0, none⟩) 1 1) [118] := by rw [hw4]; exact byt_lit wr 118 _
        have hN4 := hN.up (show Fr (fun _ => False) wr w4 by rw [hw4]; exact (Fr.refl _ wr).alloc _)
        have HW4 := Lib.hid hw4
        clear hw4 hlt hN
        go_wp2_with fail
        rw [← HW4.out]
        clear HW4 ha
        refine (pro_lw hN4.l 7 (by omega) _ [118] (by unfold maxLen; omega) hb4).mono ?_
        rintro e w5 ⟨va, vc, G5, rfl, ho5, hL5, hX5, hn5, hf5⟩
        have hN5 := hN4.next hL5 hX5 hf5
        clear hL5 hX5 hf5 hb4 hN4 ho5 hn5
        cases hq : isQ ⟨k, n, o, t, l⟩ false x.testBit with
        | false =>
          obtain ⟨e1, e2, e3⟩ := need_no ⟨k, n, o, t, l⟩ x hq
          rw [e2] at hN5
          rw [e1, e3]
          simp only [vtV, List.length_nil]
          obtain ⟨w6, hw6⟩ : ∃ w6, w6 = w5.alloc (.cells #[.int .u64 0, .int .u64 0, .int .i64 0, .slice va 0 vc] 45) := ⟨_, rfl⟩
          have hN6 := hN5.up (show Fr (fun _ => False) w5 w6 by rw [hw6]; exact (Fr.refl _ w5).alloc _)
          have HW6 := Lib.hid hw6
          clear hw6 hN5 e1 e2 e3 hq
          go_upto_region 21 with (fail)
          rw [← HW6.out]
          go_wp2_with fail
          refine (acc_lw hN6.l 0 7 (by omega)).mono ?_
          rintro e w7 ⟨rfl, hL7, -⟩
          rw [need_acc0 _ _ (by show 1 ≤ n; omega)]
          go_wp2_with fail
          refine (known_any w7).mono ?_
          rintro e w8 ⟨rfl, hf8⟩
          go_wp2_with fail
          go_ret
          exact ⟨rfl, hL7.none_ hf8⟩
        | true =>
          obtain ⟨e1, e2, e3⟩ := need_yes ⟨k, n, o, t, l⟩ x hq
          rw [e2] at hN5
          rw [e1, e3]
          simp only [vtV, List.length_cons, List.length_nil, Nat.zero_add]
          obtain ⟨w6, hw6⟩ : ∃ w6, w6 = w5.alloc (.cells #[.int .u64 7, .int .u64 1, .int .i64 0, .slice va 1 vc] 45) := ⟨_, rfl⟩
          have hN6 := hN5.up (show Fr (fun _ => False) w5 w6 by rw [hw6]; exact (Fr.refl _ w5).alloc _)
          have HW6 := Lib.hid hw6
          obtain ⟨c6, hc6⟩ : ∃ c6, c6 = cc + 1 := ⟨_, rfl⟩
          rw [← hc6] at hN6
          clear hw6 hN5 e1 e2 e3 hq hc6
          go_upto_region 21 with (fail)
          rw [← HW6.out]
          clear HW6
          go_wp2_with fail
          clear HJ hj' hcj hc40
          go_loopg [9, 18] l2.length (fun g x9 x18 wr => ∃ (j y : Nat) (G : Nat → Prop), j + g = l2.length ∧ x18 = .int .i64 j ∧ x9 = .int .u32 y ∧ y < 4096 ∧ NeR W wr r bq ⟨k, n, o, t, l⟩ (.slice A l.length c) (chP ⟨k, n, o, t, l⟩ x y) c6 G)
          case atStart => exact ⟨0, 0, G5, by omega, rfl, rfl, by omega, hN6⟩
          case round =>
            clear hN6
            obtain ⟨j, y, G, hj, rfl, rfl, hy12, hN⟩ := hrel
            have HJ := Lib.hid hj
            have hj' : j ≤ l2.length := by omega
            clear hj
            by_cases hlt : j < l2.length ∧ j < 30
            · obtain ⟨hlt, hlt2⟩ := hlt
              obtain ⟨a, ha⟩ : ∃ a, l2[j]? = some a := ⟨_, List.getElem?_eq_getElem hlt⟩
              obtain ⟨b, off, rfl, hcell⟩ := HC2.out (by intro e; rw [e] at hlt; simp at hlt)
              have hlo : b < W.heap.size := World.block_lt_of_cell? W _ (hcell j a ha)
              have q0 : wr.cell? ⟨b, off + j, none⟩ = some (.int .i64 a) := hN.l.fr.cell (hcell j a ha) (by show ¬ W.heap.size ≤ b; omega)
              have HCell := Lib.hid (hcell j a ha)
              have HLo := Lib.hid hlo
              clear hcell ha hlo
              go_wp2_with fail
              refine (acc_lw hN.l a 7 (by omega)).mono ?_
              rintro e w7 ⟨rfl, hL7, hf7⟩
              rw [ch_acc] at hL7
              rw [ch_accE]
              have hN7 := hN.next hL7 (Nx.refl _ _ _) hf7
              clear hL7 hf7 hN q0
              have q0 : w7.cell? ⟨b, off + j, none⟩ = some (.int .i64 a) := hN7.l.fr.cell HCell.out (by show ¬ W.heap.size ≤ b; have := HLo.out; omega)
              have hin : inN ⟨k, n, o, t, l⟩ a = decide (0 ≤ a ∧ a < n) := rfl
              obtain ⟨X, hX⟩ : ∃ X, X = orN ⟨k, n, o, t, l⟩ y a := ⟨_, rfl⟩
              rw [← hX] at hN7
              by_cases h : 0 ≤ a ∧ a < n
              · obtain ⟨z, rfl⟩ := Int.eq_ofNat_of_zero_le h.1
                have hz12 : z < 12 := by omega
                have HX := Lib.hid (show X = y ||| 2 ^ z by rw [hX]; unfold orN; rw [hin, decide_eq_true h]; rfl)
                have hX12 : X < 4096 := by rw [HX.out]; exact or_lt y z hy12 hz12
                rw [hin, decide_eq_true h]
                simp only [if_true]
                have h0 : (0 : Int) ≤ (z : Int) := by omega
                clear hin hX h
                go_wp2_with fail
                rw [or_bit y z hy12 hz12, ← HX.out]
                clear q0 h0
                refine (chosen_any r _ _ _ 7 (by omega) w7 hN7.l.pr).mono ?_
                rintro e w8 ⟨va, vc, rfl, ho8, hf8⟩
                rw [ch_ch] at ho8 ⊢
                have hN8 := hN7.up hf8
                clear hf8
                cases hq2 : isQ ⟨k, n, o, t, l⟩ true (X).testBit with
                | true =>
                  have HQ2 := Lib.hid hq2
                  rw [hq2] at ho8
                  clear hq2
                  simp only [if_true, Option.getD_some, Option.isSome_some, List.length_cons, List.length_nil, Nat.zero_add] at ho8 ⊢
                  have b0 := hN8.b.cell 0 rfl
                  have b1 := hN8.b.cell 1 rfl
                  have b2 := hN8.b.cell 2 rfl
                  have b3 := hN8.b.cell 3 rfl
                  have b4 := hN8.b.cell 4 rfl
                  go_wp2_with fail
                  refine (HI2.out (X) (by omega) w8 (hN8.it HS.out) (by omega)).mono ?_
                  rintro e w9 ⟨rfl, hf9⟩
                  rw [HQ2.out]
                  have hN9 := hN8.up hf9
                  have e1 : (convert 35 9 (.slice va 1 vc)).run Try.prog w9 = .ok (.string ⟨#[118]⟩) w9 := run_str (src := 35) (dst := 9) Try.underlying35 Try.underlying5 Try.underlying9 (Byt.of_own (own_fr ho8 hf9 (fun _ _ h => h)))
                  clear b0 b1 b2 b3 b4 hf9 ho8
                  go_wp2_with fail
                  refine (prefix_any r _ _ _ w9 hN9.l.pr).mono ?_
                  rintro e w10 ⟨⟨at', -, hat, rfl⟩, hf10⟩
                  obtain rfl : at' = 8 := hat.inj (ch_pre_t _ _ _ HQ2.out)
                  have hN10 := hN9.up hf10
                  clear hf10 hat e1 hN7 hN8 hN9
                  go_wp2_with fail
                  go_roundg (l2.length - (j + 1))
                  case measure => have := HJ.out; omega
                  case rel => exact ⟨j + 1, X, G, by have := HJ.out; omega, by go_num, rfl, by omega, hN10⟩
                | false =>
                  have HQ2 := Lib.hid hq2
                  rw [hq2] at ho8
                  clear hq2
                  simp only [Bool.false_eq_true, if_false, Option.getD_none, Option.isSome_none, List.length_nil] at ho8 ⊢
                  have b0 := hN8.b.cell 0 rfl
                  have b1 := hN8.b.cell 1 rfl
                  have b2 := hN8.b.cell 2 rfl
                  have b3 := hN8.b.cell 3 rfl
                  have b4 := hN8.b.cell 4 rfl
                  go_wp2_with fail
                  refine (HI2.out (X) (by omega) w8 (hN8.it HS.out) (by omega)).mono ?_
                  rintro e w9 ⟨rfl, hf9⟩
                  rw [HQ2.out]
                  have hN9 := hN8.up hf9
                  clear b0 b1 b2 b3 b4 hf9 ho8
                  go_wp2_with fail
                  refine (prefix_any r _ _ _ w9 hN9.l.pr).mono ?_
                  rintro e w10 ⟨⟨at', -, hat, rfl⟩, hf10⟩
                  obtain rfl : at' = 7 := hat.inj (ch_pre_f _ _ _ HQ2.out)
                  have hN10 := hN9.up hf10
                  clear hf10 hat hN7 hN8 hN9
                  go_wp2_with fail
                  go_roundg (l2.length - (j + 1))
                  case measure => have := HJ.out; omega
                  case rel => exact ⟨j + 1, X, G, by have := HJ.out; omega, by go_num, rfl, by omega, hN10⟩
              · have HX := Lib.hid (show X = y by rw [hX]; unfold orN; rw [hin, decide_eq_false h]; rfl)
                rw [hin, decide_eq_false h]
                simp only [Bool.false_eq_true, if_false]
                clear hin hX h
                go_wp2_with fail
                rw [HX.out] at hN7
                clear q0
                refine (chosen_any r _ _ _ 7 (by omega) w7 hN7.l.pr).mono ?_
                rintro e w8 ⟨va, vc, rfl, ho8, hf8⟩
                rw [ch_ch] at ho8 ⊢
                have hN8 := hN7.up hf8
                clear hf8
                cases hq2 : isQ ⟨k, n, o, t, l⟩ true (y).testBit with
                | true =>
                  have HQ2 := Lib.hid hq2
                  rw [hq2] at ho8
                  clear hq2
                  simp only [if_true, Option.getD_some, Option.isSome_some, List.length_cons, List.length_nil, Nat.zero_add] at ho8 ⊢
                  have b0 := hN8.b.cell 0 rfl
                  have b1 := hN8.b.cell 1 rfl
                  have b2 := hN8.b.cell 2 rfl
                  have b3 := hN8.b.cell 3 rfl
                  have b4 := hN8.b.cell 4 rfl
                  go_wp2_with fail
                  refine (HI2.out (y) (by omega) w8 (hN8.it HS.out) (by omega)).mono ?_
                  rintro e w9 ⟨rfl, hf9⟩
                  rw [HQ2.out]
                  have hN9 := hN8.up hf9
                  have e1 : (convert 35 9 (.slice va 1 vc)).run Try.prog w9 = .ok (.string ⟨#[118]⟩) w9 := run_str (src := 35) (dst := 9) Try.underlying35 Try.underlying5 Try.underlying9 (Byt.of_own (own_fr ho8 hf9 (fun _ _ h => h)))
                  clear b0 b1 b2 b3 b4 hf9 ho8
                  go_wp2_with fail
                  refine (prefix_any r _ _ _ w9 hN9.l.pr).mono ?_
                  rintro e w10 ⟨⟨at', -, hat, rfl⟩, hf10⟩
                  obtain rfl : at' = 8 := hat.inj (ch_pre_t _ _ _ HQ2.out)
                  have hN10 := hN9.up hf10
                  clear hf10 hat e1 hN7 hN8 hN9
                  go_wp2_with fail
                  go_roundg (l2.length - (j + 1))
                  case measure => have := HJ.out; omega
                  case rel => exact ⟨j + 1, y, G, by have := HJ.out; omega, by go_num, rfl, by omega, hN10⟩
                | false =>
                  have HQ2 := Lib.hid hq2
                  rw [hq2] at ho8
                  clear hq2
                  simp only [Bool.false_eq_true, if_false, Option.getD_none, Option.isSome_none, List.length_nil] at ho8 ⊢
                  have b0 := hN8.b.cell 0 rfl
                  have b1 := hN8.b.cell 1 rfl
                  have b2 := hN8.b.cell 2 rfl
                  have b3 := hN8.b.cell 3 rfl
                  have b4 := hN8.b.cell 4 rfl
                  go_wp2_with fail
                  refine (HI2.out (y) (by omega) w8 (hN8.it HS.out) (by omega)).mono ?_
                  rintro e w9 ⟨rfl, hf9⟩
                  rw [HQ2.out]
                  have hN9 := hN8.up hf9
                  clear b0 b1 b2 b3 b4 hf9 ho8
                  go_wp2_with fail
                  refine (prefix_any r _ _ _ w9 hN9.l.pr).mono ?_
                  rintro e w10 ⟨⟨at', -, hat, rfl⟩, hf10⟩
                  obtain rfl : at' = 7 := hat.inj (ch_pre_f _ _ _ HQ2.out)
                  have hN10 := hN9.up hf10
                  clear hf10 hat hN7 hN8 hN9
                  go_wp2_with fail
                  go_roundg (l2.length - (j + 1))
                  case measure => have := HJ.out; omega
                  case rel => exact ⟨j + 1, y, G, by have := HJ.out; omega, by go_num, rfl, by omega, hN10⟩
            · have hcs : (j < l2.length ∧ ¬ (j : Int) < 30) ∨ ¬ (j < l2.length) := by omega
              rcases hcs with ⟨ha, hb⟩ | ha
              all_goals
                go_wp2_with fail
                refine (known_any wr).mono ?_
                rintro e w8 ⟨rfl, hf8⟩
                go_wp2_with fail
                go_ret
                exact ⟨rfl, hN.end_ hf8⟩
end Go.Proofs.Ytliljjlegofmkaa
