/- known. -/
import Derived.Test.YtkpfgoalohbfeaaSR
import Derived.Test.YtkpfgoalohbfeaaSP
namespace Go.Proofs.Ytkpfgoalohbfeaa
open Go.RowKit

/-- A room that a law has made, behind the world at its start. -/
structure Lr (W w : World) (r nb : Nat) (st : Sy) (c : Nat) (G F : Nat → Prop) : Prop where
  rm : Rm w r nb st c G F
  lo : ∀ k, F k → W.heap.size ≤ k
  fr : Fr (fun _ => False) W w
section
variable {W w w' : World} {r nb c c' : Nat} {st st' : Sy} {G F G' F' X : Nat → Prop}
theorem Lr.next (h : Lr W w r nb st c G F) (hT : RmTo w r nb st' c' G F w') : ∃ G' F', Lr W w' r nb st' c' G' F' ∧ Nx F F' w w' ∧ Fr G w w' := by
  obtain ⟨G', F', h1, h2, h3, h4⟩ := hT
  have hs := h.fr.size
  refine ⟨G', F', ⟨h1, fun k hk => ?_, h.fr.trans h4 (fun k hk hx => hx.elim id (fun hg => by have := h.lo k (h.rm.GF k hg); omega))⟩, h3, h4⟩
  rcases h3 k hk with h5 | h5
  · exact h.lo k h5
  · omega
theorem Lr.up (h : Lr W w r nb st c G F) (hf : Fr (fun _ => False) w w') : Lr W w' r nb st c G F := ⟨h.rm.none_ hf, h.lo, h.fr.tr hf⟩
theorem Lr.off (h : Lr W w r nb st c G F) (hf : Fr X w w') (hX : ∀ k, X k → ¬ F k ∧ W.heap.size ≤ k) : Lr W w' r nb st c G F :=
  ⟨h.rm.fr hf (fun k hk hx => (hX k hx).1 hk), h.lo, h.fr.trans hf (fun k hk hx => hx.elim id (fun hx => by have := (hX k hx).2; omega))⟩
theorem Lr.notF (h : Lr W w r nb st c G F) {k : Nat} (hk : w.heap.size ≤ k) : ¬ F k := fun hF => by have := h.rm.lt k hF; omega
/-- What is kept beside a room. -/
def Sav (w : World) (F : Nat → Prop) (s : Value) (bs : List UInt8) : Prop := Byt w s bs ∧ ∀ k, s.ownBlock = some k → bs ≠ [] → ¬ F k ∧ k < w.heap.size
theorem Sav.next {s : Value} {bs : List UInt8} (h : Sav w F s bs) (hn : Nx F F' w w') (hf : Fr G w w') (hG : ∀ k, G k → F k) : Sav w' F' s bs := by
  have hs := hf.size
  refine ⟨h.1.fr' hf (fun k hk hn hg => (h.2 k hk hn).1 (hG k hg)), fun k hk hne => ⟨fun hF => ?_, by have := (h.2 k hk hne).2; omega⟩⟩
  rcases hn k hF with h1 | h1
  · exact (h.2 k hk hne).1 h1
  · have := (h.2 k hk hne).2; omega
theorem Sav.up {s : Value} {bs : List UInt8} (h : Sav w F s bs) (hf : Fr (fun _ => False) w w') : Sav w' F s bs := h.next (Nx.refl _ _ _) hf (fun _ h => h.elim)
theorem Sav.new {s : Value} {bs : List UInt8} {n : Nat} (L : Lr W w r nb st c G F) (ho : w'.ownsRow w.heap.size 5 1 s n (u8s bs)) (hb : Byt w' s bs) : Sav w' F s bs :=
  ⟨hb, fun k hk _ => ⟨L.notF (ho.lt k hk).1, (ho.lt k hk).2⟩⟩
end

def KS : Sy := startS (room0 Q3) 0 [120]
theorem ks_wf : SWf KS := SWf.start (room0_wf (by kernel_rfl) (Nat.zero_le _)) 0
set_option maxRecDepth 100000 in
theorem ks_len : ∀ i : Fin 12, 0 < (tk0 KS i.val).l.length := by decide +kernel
set_option maxRecDepth 100000 in
theorem ks_end : (tk0 KS 12).l.length = 0 ∧ lrnB (tk0 KS 12) 0 = some [120] ∧ lrnB (tk0 KS 12) 1 = none ∧ (votV (tk0 KS 12) 2).s = 1 ∧ (votV (tk0 KS 12) 2).v = [120] := by decide +kernel
theorem ks_e : startE (room0 Q3) 0 [120] = 0 ∧ startB (room0 Q3) 0 [120] = (1, 0) ∧ KS.l.length = 3 := by decide +kernel

set_option maxRecDepth 100000 in
set_option maxHeartbeats 8000000 in
theorem known_any (W : World) : Calls Try.prog 12 #[] W fun e w' => e = .returned (.bool true) ∧ Fr (fun _ => False) W w' := by
  have kc := fun (w : World) (C : Array Value) (n c : Nat) => Lib.run_convert_bytes_const (P := Try.prog) w 31 5 C n c Try.underlying31 Try.underlying5
  go_enter Try.func12, Try.ntmps12
  go_wp2_with fail
  refine (three_any W).mono ?_
  rintro e w1 ⟨rfl, hf1⟩
  have HF1 := Lib.hid hf1
  clear hf1
  simp only [Qu.v]
  go_wp2_with fail
  have hnew := snew_ok Q3 (.slice none 0 0) w1 (ints_nil w1) (fun c e => by injection e with _ _ e; exact e.symm) (Nat.zero_le _) (by kernel_rfl)
  refine hnew.mono ?_
  rintro e w2 ⟨r, nb, G, rfl, hR2, hf2⟩
  have L2 : Lr W w2 r nb (room0 Q3) 0 G _ := ⟨hR2, fun k hk => by have := HF1.out.size; omega, HF1.out.tr hf2⟩
  generalize (fun k => w1.heap.size ≤ k ∧ k < w2.heap.size) = F at L2
  have HL2 := Lib.hid L2
  clear L2 hR2 hf2 hnew
  go_upto_region 4 with (fail)
  obtain ⟨w3, hw3⟩ : ∃ w3, w3 = w2.alloc (.cells #[.int .u8 120] 5 (1, 2)) := ⟨_, rfl⟩
  have hf3 : Fr (fun _ => False) w2 w3 := by rw [hw3]; exact (Fr.refl _ w2).alloc _
  have hb3 : Byt w3 (.slice (some ⟨w2.heap.size, 0, none⟩) 1 1) [120] := by rw [hw3]; exact byt_lit w2 120 _
  have HW3 := Lib.hid hw3
  have hst := start_any r nb (room0 Q3) 0 G F 0 (.slice (some ⟨w2.heap.size, 0, none⟩) 1 1) [120] w3 (HL2.out.up hf3).rm hb3 (fun k hk _ hg => by
    simp only [Value.ownBlock] at hk
    injection hk with hk
    exact HL2.out.notF (by omega) (HL2.out.rm.GF k hg)) (by simp)
  have HSt := Lib.hid hst
  have HF3 := Lib.hid hf3
  clear hw3 hf3 hb3 hst
  go_wp2_with fail
  rw [← HW3.out]
  refine HSt.out.mono ?_
  rintro e w4 ⟨rfl, hT⟩
  rw [ks_e.1, ks_e.2.1]
  have hT : RmTo w3 r nb KS 0 G F w4 := hT
  obtain ⟨G4, F4, L4, -, -⟩ := (HL2.out.up HF3.out).next hT
  obtain ⟨w5, hw5⟩ : ∃ w5, w5 = w4.alloc (.cells #[.int .u64 1, .int .i64 0] 44) := ⟨_, rfl⟩
  have hf5 : Fr (fun _ => False) w4 w5 := by rw [hw5]; exact (Fr.refl _ w4).alloc _
  have hB5 : Blk w5 w4.heap.size 44 #[.int .u64 1, .int .i64 0] := by rw [hw5]; exact Blk.new _ _ _
  obtain ⟨b5, hb5⟩ : ∃ b, b = w4.heap.size := ⟨_, rfl⟩
  rw [← hb5] at hB5
  have L5 := L4.up hf5
  have HW5 := Lib.hid (And.intro hw5 hb5)
  have HL5 := Lib.hid L5
  clear HW3 HSt hT L4 L5 hw5 hb5 hf5
  go_upto_region 5 with (fail)
  rw [← HW5.out.1, ← HW5.out.2]
  clear HW5
  have b0 := hB5.cell 0 rfl
  have hln := len_any r nb KS 0 G4 F4 w5 HL5.out.rm
  rw [ks_e.2.2] at hln
  have HLn := Lib.hid hln
  clear hln
  go_wp2_with fail
  refine HLn.out.mono ?_
  rintro e w6 ⟨rfl, rfl⟩
  clear HLn b0 hB5
  go_upto_region 8 with (fail)
  go_loopg [5] 12 (fun g x5 wr => ∃ (j : Nat) (Gj Fj : Nat → Prop), j + g = 12 ∧ x5 = .int .i64 j ∧ Lr W wr r nb (tk0 KS j) (2 * j) Gj Fj)
  case atStart => exact ⟨0, G4, F4, by omega, rfl, HL5.out⟩
  case round =>
    obtain ⟨j, Gj, Fj, hj, rfl, hL⟩ := hrel
    have HJ := Lib.hid hj
    have HL := Lib.hid hL
    have hj' : j ≤ 12 := by omega
    have hln := len_any r nb _ _ Gj Fj wr hL.rm
    have HLn := Lib.hid hln
    clear hj hL hln
    by_cases hjN : j < 12
    · have hj60 : (j : Int) < 60 := by omega
      have hl0 : (0 : Int) < ((tk0 KS j).l.length : Int) := by have := ks_len ⟨j, hjN⟩; simp only at this; omega
      go_wp2_with fail
      refine HLn.out.mono ?_
      rintro e w7 ⟨rfl, rfl⟩
      go_wp2_with fail
      refine (take_any r nb (tk0 KS j) (2 * j) Gj Fj 0 wr HL.out.rm (by unfold maxLen; omega)).mono ?_
      rintro e w8 ⟨rfl, hT⟩
      obtain ⟨G8, F8, L8, -, -⟩ := HL.out.next hT
      have HL8 := Lib.hid L8
      clear hT L8
      go_wp2_with fail
      go_roundg (12 - (j + 1))
      case measure => have := HJ.out; omega
      case rel => exact ⟨j + 1, G8, F8, by have := HJ.out; omega, by go_num, ⟨HL8.out.rm.mono (by omega), HL8.out.lo, HL8.out.fr⟩⟩
    · obtain rfl : j = 12 := by omega
      rw [ks_end.1] at HLn
      go_wp2_with fail
      refine HLn.out.mono ?_
      rintro e w7 ⟨rfl, rfl⟩
      clear HLn
      go_wp2_with fail
      refine (lrn_any r nb _ _ Gj Fj 0 wr HL.out.rm).mono ?_
      intro e w8 hres
      rw [ks_end.2.1] at hres
      obtain ⟨va8, vc8, rfl, ho8, hf8⟩ := hres
      have L8 := HL.out.up hf8
      have HL8 := Lib.hid (And.intro L8 ho8)
      clear L8 ho8 hf8
      simp only [Option.getD_some, Option.isSome_some, List.length_cons, List.length_nil, Nat.zero_add]
      go_wp2_with fail
      refine (lrn_any r nb _ _ Gj Fj 1 w8 HL8.out.1.rm).mono ?_
      intro e w9 hres
      rw [ks_end.2.2.1] at hres
      obtain ⟨va9, vc9, rfl, ho9, hf9⟩ := hres
      have HL9 := Lib.hid (And.intro (HL8.out.1.up hf9) (own_fr HL8.out.2 hf9 (fun _ _ h => h)))
      clear ho9 hf9
      simp only [Option.getD_none, Option.isSome_none, List.length_nil]
      go_wp2_with fail
      have hvt := voted_any r nb _ _ Gj Fj 2 w9 HL9.out.1.rm
      have hk := ks_end.2.2.2
      generalize votV (tk0 KS 12) 2 = V at hvt hk
      generalize votN (tk0 KS 12) 2 = pn at hvt
      generalize votD (tk0 KS 12) 2 = pd at hvt
      obtain ⟨s1, n1, d1, v1⟩ := V
      obtain ⟨rfl, rfl⟩ : s1 = 1 ∧ v1 = [120] := hk
      have HVt := Lib.hid hvt
      clear hvt
      refine HVt.out.mono ?_
      rintro e w10 ⟨va10, vc10, rfl, ho10, hf10⟩
      simp only [List.length_cons, List.length_nil, Nat.zero_add] at ho10 ⊢
      obtain ⟨w11, hw11⟩ : ∃ w11, w11 = (w10.alloc (.cells #[.int .u64 (pn : Int), .int .i64 pd] 44)).alloc (.cells #[.int .u64 1, .int .u64 (n1 : Int), .int .i64 d1, .slice va10 1 vc10] 46) := ⟨_, rfl⟩
      have hf11 : Fr (fun _ => False) w10 w11 := by rw [hw11]; exact ((Fr.refl _ w10).alloc _).alloc _
      have hC11 : Blk w11 (w10.heap.size + 1) 46 #[.int .u64 1, .int .u64 (n1 : Int), .int .i64 d1, .slice va10 1 vc10] := by
        have := Blk.new (w10.alloc (.cells #[.int .u64 (pn : Int), .int .i64 pd] 44)) 46 #[.int .u64 1, .int .u64 (n1 : Int), .int .i64 d1, .slice va10 1 vc10]
        rw [hw11]; simpa using this
      obtain ⟨bb, hbb⟩ : ∃ b, b = w10.heap.size := ⟨_, rfl⟩
      rw [← hbb] at hC11
      have HW11 := Lib.hid (And.intro hw11 hbb)
      have e1 : (convert 31 9 (.slice va8 1 vc8)).run Try.prog w11 = .ok (.string ⟨#[120]⟩) w11 := run_str (src := 31) (dst := 9) Try.underlying31 Try.underlying5 Try.underlying9 (Byt.of_own (own_base (own_fr HL9.out.2 (hf10.tr hf11) (fun _ _ h => h))))
      have e2 : (convert 31 9 (.slice va10 1 vc10)).run Try.prog w11 = .ok (.string ⟨#[120]⟩) w11 := run_str (src := 31) (dst := 9) Try.underlying31 Try.underlying5 Try.underlying9 (Byt.of_own (own_base (own_fr ho10 hf11 (fun _ _ h => h))))
      have HFin := Lib.hid ((HL9.out.1.up hf10).up hf11).fr
      clear ho10 hf10 hf11 hw11 hbb
      go_upto_region 14 with (fail)
      rw [← HW11.out.1, ← HW11.out.2]
      clear HW11
      have y0 := hC11.cell 0 rfl
      have y3 := hC11.cell 3 rfl
      go_wp2_with fail
      go_ret
      exact ⟨rfl, HFin.out⟩
end Go.Proofs.Ytkpfgoalohbfeaa
