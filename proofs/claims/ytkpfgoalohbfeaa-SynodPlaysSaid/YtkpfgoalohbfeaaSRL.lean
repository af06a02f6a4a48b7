/- both: an act on both rooms. -/
import Derived.Test.YtkpfgoalohbfeaaSRK
import Derived.Test.YtkpfgoalohbfeaaSYa
import Derived.Test.YtkpfgoalohbfeaaBe
namespace Go.Proofs.Ytkpfgoalohbfeaa
open Go.RowKit

theorem Marks.own {w : World} {g cap : Nat} {bs : List UInt8} (h : Marks w g cap bs) : w.ownsRow 0 5 1 (.slice (some ⟨g, 0, none⟩) bs.length cap) bs.length (u8s bs) := by
  obtain ⟨cur, h1, h2, h3, h4, h5⟩ := h
  refine own_mk h1 (by omega) h3 (by rw [h4, Nat.mul_one]) ?_
  have := congrArg (List.take bs.length) h5
  rw [List.take_take, Nat.min_eq_left (by omega), u8s_append, List.take_append_of_le_length (by simp)] at this
  rw [Nat.mul_one, this, List.take_of_length_le (by simp)]
theorem Marks.lt {w : World} {g cap : Nat} {bs : List UInt8} (h : Marks w g cap bs) : g < w.heap.size := by
  obtain ⟨cur, h1, _⟩ := h
  exact h1.lt

/-- An act on both rooms: as it is told. -/
def actP (st : Sy) (x : Ac) : Sy :=
  if x.k = 0 then startS st x.a x.v
  else if x.k = 1 ∨ x.k = 2 ∨ x.k = 3 ∨ x.k = 4 then takeS st x.a
  else if x.k = 5 then dropS st x.a
  else if x.k = 6 then twicS st x.a
  else if x.k = 7 then crashS st x.a
  else tk0 st 60
section
variable {st : Sy} {g : Gh} {S : List UInt8 → Prop}
theorem Kp.actP (h : Kp st g S) (hS : ∀ v, S v → v.length ≤ 100) (x : Ac) (hx : x.k = 0 → x.v.length ≤ 100 → S x.v) : ∃ g', Kp (Go.Proofs.Ytkpfgoalohbfeaa.actP st x) g' S := by
  unfold Go.Proofs.Ytkpfgoalohbfeaa.actP
  split
  · rename_i h0; exact ⟨g, h.start _ (hx h0)⟩
  · split
    · obtain ⟨g', h1, -⟩ := h.take hS x.a; exact ⟨g', h1⟩
    · split
      · exact ⟨g, h.drop _⟩
      · split
        · exact ⟨g, h.twice _⟩
        · split
          · exact ⟨g, h.crash _⟩
          · obtain ⟨g', h1, -⟩ := h.tk0 hS 60; exact ⟨g', h1⟩
theorem Kp.let (h : Kp st g S) : ∀ m ∈ st.l, LetOk m := fun m hm => ⟨(h.inv.lt m hm).k, fun h3 => by obtain ⟨v, h1, h2, _⟩ := (h.inv.lt m hm).k3 h3; exact ⟨v, h1, h2⟩⟩
end
/-- Both rooms, side by side. -/
structure Ld (W w : World) (r nb : Nat) (st : Sy) (c : Nat) (G F : Nat → Prop) (r' nb' : Nat) (st' : Sy) (c' : Nat) (G' F' : Nat → Prop) : Prop where
  l : Lr W w r nb st c G F
  rf : Rf w r' nb' st' c' G' F'
  lo : ∀ k, F' k → W.heap.size ≤ k
  dj : ∀ k, F k → ¬ F' k
section
variable {W w w' : World} {r nb c r' nb' c' c1 : Nat} {st st' st1 : Sy} {G F G' F' X : Nat → Prop}
theorem Ld.up (h : Ld W w r nb st c G F r' nb' st' c' G' F') (hf : Fr (fun _ => False) w w') : Ld W w' r nb st c G F r' nb' st' c' G' F' := ⟨h.l.up hf, h.rf.none_ hf, h.lo, h.dj⟩
theorem Ld.off (h : Ld W w r nb st c G F r' nb' st' c' G' F') (hf : Fr X w w') (hX : ∀ k, X k → ¬ F k ∧ ¬ F' k ∧ W.heap.size ≤ k) : Ld W w' r nb st c G F r' nb' st' c' G' F' :=
  ⟨h.l.off hf (fun k hk => ⟨(hX k hk).1, (hX k hk).2.2⟩), h.rf.fr hf (fun k hk hx => (hX k hx).2.1 hk), h.lo, h.dj⟩
theorem Ld.mono (h : Ld W w r nb st c G F r' nb' st' c' G' F') (hc : c ≤ c1) {c2 : Nat} (hc2 : c' ≤ c2) : Ld W w r nb st c1 G F r' nb' st' c2 G' F' := ⟨⟨h.l.rm.mono hc, h.l.lo, h.l.fr⟩, h.rf.mono hc2, h.lo, h.dj⟩
theorem Ld.stepM (h : Ld W w r nb st c G F r' nb' st' c' G' F') (hT : RmTo w r nb st1 c1 G F w') : ∃ G1 F1, Ld W w' r nb st1 c1 G1 F1 r' nb' st' c' G' F' ∧ Nx F F1 w w' ∧ Fr G w w' := by
  obtain ⟨G1, F1, h1, h2, h3⟩ := h.l.next hT
  refine ⟨G1, F1, ⟨h1, h.rf.fr h3 (fun k hk hg => h.dj k (h.l.rm.GF k hg) hk), h.lo, fun k hk hk' => ?_⟩, h2, h3⟩
  rcases h2 k hk with h4 | h4
  · exact h.dj k h4 hk'
  · have := h.rf.lt k hk'; omega
theorem Ld.stepF (h : Ld W w r nb st c G F r' nb' st' c' G' F') (hT : RfTo w r' nb' st1 c1 G' F' w') : ∃ G1 F1, Ld W w' r nb st c G F r' nb' st1 c1 G1 F1 ∧ Nx F' F1 w w' ∧ Fr G' w w' := by
  obtain ⟨G1, F1, h1, h2, h3, h4, h5⟩ := hT
  have hs := h.l.fr.size
  refine ⟨G1, F1, ⟨h.l.off h4 (fun k hk => ⟨fun hF => h.dj k hF (h.rf.GF k hk), h.lo k (h.rf.GF k hk)⟩), h1, fun k hk => ?_, fun k hk hk' => ?_⟩, h3, h4⟩
  · rcases h3 k hk with h6 | h6
    · exact h.lo k h6
    · omega
  · rcases h3 k hk' with h6 | h6
    · exact h.dj k hk h6
    · have := h.l.rm.lt k hk; omega
end
def BothPost (W : World) (r nb : Nat) (st1 : Sy) (c : Nat) (r' nb' c' : Nat) (e : Ending) (w' : World) : Prop :=
  e = .returned (.bool true) ∧ ∃ G F G' F', Ld W w' r nb st1 c G F r' nb' st1 c' G' F'

set_option maxRecDepth 100000 in
set_option maxHeartbeats 16000000 in
theorem both_any (W w : World) (r nb : Nat) (st : Sy) (c : Nat) (G F : Nat → Prop) (r' nb' c' : Nat) (G' F' : Nat → Prop) (x : Ac) (vs : Value) (h : Ld W w r nb st c G F r' nb' st c' G' F') (hk : ∀ k, ∀ m ∈ (tk0 st k).l, LetOk m)
    (hv : Byt w vs x.v) (hvX : ∀ k, vs.ownBlock = some k → x.v ≠ [] → k < W.heap.size) (hvl : x.v.length ≤ 1000) (hc : c + 200 < maxLen) (hc' : c' + 100 ≤ 1000000) :
    Calls Try.prog 26 #[.pointer (some ⟨r, 0, none⟩), .pointer (some ⟨r', 0, none⟩), .agg #[.int .i64 x.k, .int .i64 x.a, vs]] w (BothPost W r nb (actP st x) (c + 120) r' nb' (c' + 60)) := by
  have hv0 := hv
  obtain ⟨va, vc, rfl, -, -⟩ := hv0
  obtain ⟨w1, hw1⟩ : ∃ w1, w1 = w.alloc (.cells #[.int .i64 x.k, .int .i64 x.a, .slice va x.v.length vc] 34) := ⟨_, rfl⟩
  have hf1 : Fr (fun _ => False) w w1 := by rw [hw1]; exact (Fr.refl _ w).alloc _
  obtain ⟨ba, hba⟩ : ∃ b, b = w.heap.size := ⟨_, rfl⟩
  have hB1 : Blk w1 ba 34 #[.int .i64 x.k, .int .i64 x.a, .slice va x.v.length vc] := by rw [hw1, hba]; exact Blk.new _ _ _
  have h1 := h.up hf1
  have hv1 := hv.fr hf1 (fun _ _ h => h)
  have hbF : ¬ F ba := fun hg => by have := h.l.rm.lt ba hg; omega
  have hbF' : ¬ F' ba := fun hg => by have := h.rf.lt ba hg; omega
  have hbG : ¬ G ba := fun hg => hbF (h.l.rm.GF ba hg)
  have HW1 := Lib.hid (And.intro hw1 hba)
  have hfin : ∀ st' w' c1 c2 G1 F1 G2 F2, c1 ≤ c + 120 → c2 ≤ c' + 60 → actP st x = st' → Ld W w' r nb st' c1 G1 F1 r' nb' st' c2 G2 F2 → BothPost W r nb (actP st x) (c + 120) r' nb' (c' + 60) (.returned (.bool true)) w' := fun st' w' c1 c2 G1 F1 G2 F2 e1 e2 he hT => by
    rw [he]; exact ⟨rfl, G1, F1, G2, F2, hT.mono e1 e2⟩
  have HF := Lib.hid hfin
  have HH := Lib.hid (And.intro h1 (And.intro hv1 (And.intro hvX (And.intro hk (And.intro hbF' (And.intro hB1 (And.intro hbF (hk 0))))))))
  have hbW : w.heap.size ≤ ba := by omega
  have hWw := h.l.fr.size
  have hsz01 := hf1.size
  have q0 := hB1.cell 0 rfl
  have q1 := hB1.cell 1 rfl
  have q2 := hB1.cell 2 rfl
  clear hw1 hba h h1 hv hv1 hvX hf1 hfin hB1 hk hbF'
  go_enter Try.func26, Try.ntmps26
  go_upto_region 1 with (fail)
  rw [← HW1.out.1, ← HW1.out.2]
  clear HW1
  by_cases k0 : x.k = 0
  · have k0' : (x.k == 0) = true := by simp [k0]
    have HE := Lib.hid (show actP st x = startS st x.a x.v by unfold actP; rw [if_pos k0])
    obtain ⟨b1, hb1⟩ : ∃ b, b = (startB st x.a x.v).1 := ⟨_, rfl⟩
    obtain ⟨b2, hb2⟩ : ∃ b, b = (startB st x.a x.v).2 := ⟨_, rfl⟩
    obtain ⟨E, hEe⟩ : ∃ b, b = startE st x.a x.v := ⟨_, rfl⟩
    have HB := Lib.hid (And.intro hb1 (And.intro hb2 hEe))
    clear hb1 hb2 hEe
    go_wp2_with fail
    refine (lent_any _ x.v w1 HH.out.2.1 (by omega)).mono ?_
    rintro e w2 ⟨g, cap, rfl, hm2, hg2, hf2⟩
    have hL2 := HH.out.1.up hf2
    have hgF : ¬ F g := fun hF => by have := HH.out.1.l.rm.lt g hF; omega
    have hgF' : ¬ F' g := fun hF => by have := HH.out.1.rf.lt g hF; omega
    have hgG : ¬ G g := fun hG => hgF (hL2.l.rm.GF g hG)
    have hs := start_any r nb st c G F x.a (.slice (some ⟨g, 0, none⟩) x.v.length cap) x.v w2 hL2.l.rm hm2.byt (fun k hk _ hG => by simp only [Value.ownBlock] at hk; injection hk with hk; exact hgG (hk ▸ hG)) hvl
    unfold StartPost at hs
    rw [← HB.out.1, ← HB.out.2.1, ← HB.out.2.2] at hs
    have HS := Lib.hid hs
    have q1' := hf2.cell q1 (fun h => h)
    have q2' := hf2.cell q2 (fun h => h)
    have hsz12 := hf2.size
    have hv2 := HH.out.2.1.fr hf2 (fun _ _ h => h)
    have hB2 := HH.out.2.2.2.2.2.1.fr hf2 (fun h => h)
    have H2 := Lib.hid (And.intro hL2 (And.intro hm2 (And.intro hv2 hB2)))
    clear q0 q1 q2 hs hL2 hm2 hv2 hB2 hf2
    go_wp2_with fail
    refine HS.out.mono ?_
    rintro e w3 ⟨rfl, hT⟩
    obtain ⟨hL2, hm2, hv2, hB2⟩ := H2.out
    obtain ⟨G1, F1, hL3, hN3, hf3⟩ := hL2.stepM hT
    obtain ⟨w4, hw4⟩ : ∃ w4, w4 = w3.alloc (.cells #[.int .u64 (b1 : Int), .int .i64 b2] 44) := ⟨_, rfl⟩
    obtain ⟨bx, hbx⟩ : ∃ b, b = w3.heap.size := ⟨_, rfl⟩
    have hf4 : Fr (fun _ => False) w3 w4 := by rw [hw4]; exact (Fr.refl _ w3).alloc _
    have hX4 : Blk w4 bx 44 #[.int .u64 (b1 : Int), .int .i64 b2] := by rw [hw4, hbx]; exact Blk.new _ _ _
    have hL4 := hL3.up hf4
    have hGW : ∀ k, G k → W.heap.size ≤ k := fun k hk => hL2.l.lo k (hL2.l.rm.GF k hk)
    have hGW' : ∀ k, G' k → W.heap.size ≤ k := fun k hk => hL2.lo k (hL2.rf.GF k hk)
    have hv4 := (hv2.fr' hf3 (fun k hk hn hG => by have h8 := HH.out.2.2.1 k hk hn; have h9 := hGW k hG; omega)).fr hf4 (fun _ _ h => h)
    have hB4 := (hB2.fr hf3 hbG).fr hf4 (fun h => h)
    have hm4 := (hm2.fr hf3 hgG).fr hf4 (fun h => h)
    have hr := rstart_any r' nb' st c' G' F' x.a (.slice va x.v.length vc) x.v w4 hL4.rf hv4 (fun k hk hn hG => by have h8 := HH.out.2.2.1 k hk hn; have h9 := hGW' k hG; omega) hvl
    unfold RStartPost at hr
    rw [← HB.out.1, ← HB.out.2.1, ← HB.out.2.2] at hr
    have HR := Lib.hid hr
    have hsz23 := hf3.size
    have hgF1 : ¬ F1 g := fun hF => (hN3 g hF).elim hgF (fun h => by have := hm2.lt; omega)
    have hbxF' : ¬ F' bx := fun hF => by have := hL3.rf.lt bx hF; omega
    have hg2l := hm2.lt
    have hgx : bx ≠ g := by omega
    have HW4 := Lib.hid (And.intro hw4 hbx)
    have hbaF' := HH.out.2.2.2.2.1
    have H4 := Lib.hid (And.intro hL4 (And.intro hm4 (And.intro hv4 (And.intro hB4 (And.intro hX4 hf4.size)))))
    clear q1' q2' hL2 hm2 hv2 hB2 hL3 hN3 hf3 hw4 hf4 hX4 hL4 hv4 hB4 hm4 hr hT HS hbx
    have q1 := H4.out.2.2.2.1.cell 1 rfl
    have q2 := H4.out.2.2.2.1.cell 2 rfl
    go_upto_region 5 with (fail)
    rw [← HW4.out.1, ← HW4.out.2]
    go_wp2_with fail
    refine HR.out.mono ?_
    rintro e w5 ⟨rfl, hT⟩
    obtain ⟨hL4, hm4, hv4, hB4, hX4, hs4⟩ := H4.out
    obtain ⟨G2, F2, hL5, hN5, hf5⟩ := hL4.stepF hT
    have hgG' : ¬ G' g := fun hG => hgF' (hL4.rf.GF g hG)
    have hbxG' : ¬ G' bx := fun hG => hbxF' (hL4.rf.GF bx hG)
    obtain ⟨w6, hw6⟩ : ∃ w6, w6 = w5.alloc (.cells #[.int .u64 (b1 : Int), .int .i64 b2] 44) := ⟨_, rfl⟩
    obtain ⟨by', hby⟩ : ∃ b, b = w5.heap.size := ⟨_, rfl⟩
    have hf6 : Fr (fun _ => False) w5 w6 := by rw [hw6]; exact (Fr.refl _ w5).alloc _
    have hY6 : Blk w6 by' 44 #[.int .u64 (b1 : Int), .int .i64 b2] := by rw [hw6, hby]; exact Blk.new _ _ _
    have hL6 := hL5.up hf6
    have hX6 := (hX4.fr hf5 hbxG').fr hf6 (fun h => h)
    have hm6 := (hm4.fr hf5 hgG').fr hf6 (fun h => h)
    have hv6 := (hv4.fr' hf5 (fun k hk hn hG => by have h8 := HH.out.2.2.1 k hk hn; have h9 := hGW' k hG; omega)).fr hf6 (fun _ _ h => h)
    have hB6 := (hB4.fr hf5 (fun hG => hbaF' (hL4.rf.GF ba hG))).fr hf6 (fun h => h)
    have hsz45 := hf5.size
    have hgF2 : ¬ F2 g := fun hF => (hN5 g hF).elim hgF' (fun h => by omega)
    have hgy : by' ≠ g := by omega
    have HW6 := Lib.hid (And.intro hw6 hby)
    have H6 := Lib.hid (And.intro hL6 (And.intro hm6 (And.intro hv6 (And.intro hX6 hY6))))
    have q2 := hB6.cell 2 rfl
    clear hL4 hm4 hv4 hB4 hX4 hL5 hN5 hf5 hw6 hf6 hY6 hL6 hX6 hm6 hv6 hB6 hT HR hby
    go_upto_region 6 with (fail)
    rw [← HW6.out.1, ← HW6.out.2]
    go_wp2_with fail
    refine (whole_any g cap _ x.v w6 H6.out.2.1 H6.out.2.2.1 (by omega)).mono ?_
    rintro e w7 ⟨rfl, rfl⟩
    go_wp2_with fail
    refine (spoil_any _ x.v w6 H6.out.2.1.own).mono ?_
    rintro e w7 ⟨rfl, hf7⟩
    have hf7 : Fr (fun k => k = g) w6 w7 := hf7.mono (fun k _ hk => by simp only [Value.ownBlock] at hk; injection hk with hk; exact hk.symm)
    have HL7 := Lib.hid (H6.out.1.off hf7 (fun k hk => by subst hk; exact ⟨hgF1, hgF2, by omega⟩))
    have hX7 := H6.out.2.2.2.1.fr hf7 hgx
    have hY7 := H6.out.2.2.2.2.fr hf7 hgy
    have x0 := hX7.cell 0 rfl
    have x1 := hX7.cell 1 rfl
    have y0 := hY7.cell 0 rfl
    have y1 := hY7.cell 1 rfl
    clear hf7 hX7 hY7 q1 q2
    go_wp2_with fail
    go_ret
    exact HF.out _ _ _ _ _ _ _ _ (by omega) (by omega) HE.out HL7.out
  have k0' : (x.k == 0) = false := by simp [k0]
  by_cases k1 : x.k = 1
  · have k1' : (x.k == 1) = true := by simp [k1]
    have HE := Lib.hid (show actP st x = takeS st x.a by unfold actP; rw [if_neg k0, if_pos (by simp [k1])])
    have HS := Lib.hid (take_any r nb st c G F x.a w1 HH.out.1.l.rm (by omega))
    go_wp2_with fail
    refine HS.out.mono ?_
    rintro e w2 ⟨rfl, hT⟩
    obtain ⟨G1, F1, hL2, hN2, hfr2⟩ := HH.out.1.stepM hT
    have HR := Lib.hid (rtake_any r' nb' st c' G' F' x.a w2 hL2.rf HH.out.2.2.2.2.2.2.2 (by omega))
    have q1' := hfr2.cell q1 hbG
    have HL := Lib.hid hL2
    clear hT hN2 hL2 hfr2 q0 q1 q2 HS
    go_wp2_with fail
    refine HR.out.mono ?_
    rintro e w3 ⟨rfl, hT⟩
    obtain ⟨G2, F2, hL3, -, -⟩ := HL.out.stepF hT
    have HL3 := Lib.hid hL3
    clear hT hL3 HR q1'
    go_wp2_with fail
    go_ret
    exact HF.out _ _ _ _ _ _ _ _ (by omega) (by omega) HE.out HL3.out
  have k1' : (x.k == 1) = false := by simp [k1]
  by_cases k2 : x.k = 2
  · have k2' : (x.k == 2) = true := by simp [k2]
    have HE := Lib.hid (show actP st x = takeS st x.a by unfold actP; rw [if_neg k0, if_pos (by simp [k2])])
    have HS := Lib.hid (take_any r nb st c G F x.a w1 HH.out.1.l.rm (by omega))
    go_wp2_with fail
    refine HS.out.mono ?_
    rintro e w2 ⟨rfl, hT⟩
    obtain ⟨G1, F1, hL2, hN2, hfr2⟩ := HH.out.1.stepM hT
    have HR := Lib.hid (rtake_any r' nb' st c' G' F' x.a w2 hL2.rf HH.out.2.2.2.2.2.2.2 (by omega))
    have q1' := hfr2.cell q1 hbG
    have HL := Lib.hid hL2
    clear hT hN2 hL2 hfr2 q0 q1 q2 HS
    go_wp2_with fail
    refine HR.out.mono ?_
    rintro e w3 ⟨rfl, hT⟩
    obtain ⟨G2, F2, hL3, -, -⟩ := HL.out.stepF hT
    have HL3 := Lib.hid hL3
    clear hT hL3 HR q1'
    go_wp2_with fail
    go_ret
    exact HF.out _ _ _ _ _ _ _ _ (by omega) (by omega) HE.out HL3.out
  have k2' : (x.k == 2) = false := by simp [k2]
  by_cases k3 : x.k = 3
  · have k3' : (x.k == 3) = true := by simp [k3]
    have HE := Lib.hid (show actP st x = takeS st x.a by unfold actP; rw [if_neg k0, if_pos (by simp [k3])])
    have HS := Lib.hid (take_any r nb st c G F x.a w1 HH.out.1.l.rm (by omega))
    go_wp2_with fail
    refine HS.out.mono ?_
    rintro e w2 ⟨rfl, hT⟩
    obtain ⟨G1, F1, hL2, hN2, hfr2⟩ := HH.out.1.stepM hT
    have HR := Lib.hid (rtake_any r' nb' st c' G' F' x.a w2 hL2.rf HH.out.2.2.2.2.2.2.2 (by omega))
    have q1' := hfr2.cell q1 hbG
    have HL := Lib.hid hL2
    clear hT hN2 hL2 hfr2 q0 q1 q2 HS
    go_wp2_with fail
    refine HR.out.mono ?_
    rintro e w3 ⟨rfl, hT⟩
    obtain ⟨G2, F2, hL3, -, -⟩ := HL.out.stepF hT
    have HL3 := Lib.hid hL3
    clear hT hL3 HR q1'
    go_wp2_with fail
    go_ret
    exact HF.out _ _ _ _ _ _ _ _ (by omega) (by omega) HE.out HL3.out
  have k3' : (x.k == 3) = false := by simp [k3]
  by_cases k4 : x.k = 4
  · have k4' : (x.k == 4) = true := by simp [k4]
    have HE := Lib.hid (show actP st x = takeS st x.a by unfold actP; rw [if_neg k0, if_pos (by simp [k4])])
    have HS := Lib.hid (take_any r nb st c G F x.a w1 HH.out.1.l.rm (by omega))
    go_wp2_with fail
    refine HS.out.mono ?_
    rintro e w2 ⟨rfl, hT⟩
    obtain ⟨G1, F1, hL2, hN2, hfr2⟩ := HH.out.1.stepM hT
    have HR := Lib.hid (rtake_any r' nb' st c' G' F' x.a w2 hL2.rf HH.out.2.2.2.2.2.2.2 (by omega))
    have q1' := hfr2.cell q1 hbG
    have HL := Lib.hid hL2
    clear hT hN2 hL2 hfr2 q0 q1 q2 HS
    go_wp2_with fail
    refine HR.out.mono ?_
    rintro e w3 ⟨rfl, hT⟩
    obtain ⟨G2, F2, hL3, -, -⟩ := HL.out.stepF hT
    have HL3 := Lib.hid hL3
    clear hT hL3 HR q1'
    go_wp2_with fail
    go_ret
    exact HF.out _ _ _ _ _ _ _ _ (by omega) (by omega) HE.out HL3.out
  have k4' : (x.k == 4) = false := by simp [k4]
  by_cases k5 : x.k = 5
  · have k5' : (x.k == 5) = true := by simp [k5]
    have HE := Lib.hid (show actP st x = dropS st x.a by unfold actP; rw [if_neg k0, if_neg (by simp [k1, k2, k3, k4]), if_pos k5])
    have HS := Lib.hid (drop_any r nb st c G F x.a w1 HH.out.1.l.rm)
    go_wp2_with fail
    refine HS.out.mono ?_
    rintro e w2 ⟨rfl, hT⟩
    obtain ⟨G1, F1, hL2, hN2, hfr2⟩ := HH.out.1.stepM hT
    have HR := Lib.hid (rdrop_any r' nb' st c' G' F' x.a w2 hL2.rf)
    have q1' := hfr2.cell q1 hbG
    have HL := Lib.hid hL2
    clear hT hN2 hL2 hfr2 q0 q1 q2 HS
    go_wp2_with fail
    refine HR.out.mono ?_
    rintro e w3 ⟨rfl, hT⟩
    obtain ⟨G2, F2, hL3, -, -⟩ := HL.out.stepF hT
    have HL3 := Lib.hid hL3
    clear hT hL3 HR q1'
    go_wp2_with fail
    go_ret
    exact HF.out _ _ _ _ _ _ _ _ (by omega) (by omega) HE.out HL3.out
  have k5' : (x.k == 5) = false := by simp [k5]
  by_cases k6 : x.k = 6
  · have k6' : (x.k == 6) = true := by simp [k6]
    have HE := Lib.hid (show actP st x = twicS st x.a by unfold actP; rw [if_neg k0, if_neg (by simp [k1, k2, k3, k4]), if_neg k5, if_pos k6])
    have HS := Lib.hid (twice_any r nb st c G F x.a w1 HH.out.1.l.rm)
    go_wp2_with fail
    refine HS.out.mono ?_
    rintro e w2 ⟨rfl, hT⟩
    obtain ⟨G1, F1, hL2, hN2, hfr2⟩ := HH.out.1.stepM hT
    have HR := Lib.hid (rtwice_any r' nb' st c' G' F' x.a w2 hL2.rf)
    have q1' := hfr2.cell q1 hbG
    have HL := Lib.hid hL2
    clear hT hN2 hL2 hfr2 q0 q1 q2 HS
    go_wp2_with fail
    refine HR.out.mono ?_
    rintro e w3 ⟨rfl, hT⟩
    obtain ⟨G2, F2, hL3, -, -⟩ := HL.out.stepF hT
    have HL3 := Lib.hid hL3
    clear hT hL3 HR q1'
    go_wp2_with fail
    go_ret
    exact HF.out _ _ _ _ _ _ _ _ (by omega) (by omega) HE.out HL3.out
  have k6' : (x.k == 6) = false := by simp [k6]
  by_cases k7 : x.k = 7
  · have k7' : (x.k == 7) = true := by simp [k7]
    have HE := Lib.hid (show actP st x = crashS st x.a by unfold actP; rw [if_neg k0, if_neg (by simp [k1, k2, k3, k4]), if_neg k5, if_neg k6, if_pos k7])
    obtain ⟨E, hE⟩ : ∃ E, E = (if inSy st x.a = true then (0 : Int) else 2) := ⟨_, rfl⟩
    have hs := crash_any r nb st c G F x.a w1 HH.out.1.l.rm
    rw [← hE] at hs
    have HS := Lib.hid hs
    have HEE := Lib.hid hE
    clear hs hE
    go_wp2_with fail
    refine HS.out.mono ?_
    rintro e w2 ⟨rfl, hT⟩
    obtain ⟨G1, F1, hL2, hN2, hfr2⟩ := HH.out.1.stepM hT
    have hr := rcrash_any r' nb' st c' G' F' x.a w2 hL2.rf
    rw [← HEE.out] at hr
    have HR := Lib.hid hr
    clear hr
    have q1' := hfr2.cell q1 hbG
    have HL := Lib.hid hL2
    clear hT hN2 hL2 hfr2 q0 q1 q2 HS
    go_wp2_with fail
    refine HR.out.mono ?_
    rintro e w3 ⟨rfl, hT⟩
    obtain ⟨G2, F2, hL3, -, -⟩ := HL.out.stepF hT
    have HL3 := Lib.hid hL3
    clear hT hL3 HR q1'
    go_wp2_with fail
    go_ret
    exact HF.out _ _ _ _ _ _ _ _ (by omega) (by omega) HE.out HL3.out
  have k7' : (x.k == 7) = false := by simp [k7]
  have HE := Lib.hid (show actP st x = tk0 st 60 by unfold actP; rw [if_neg k0, if_neg (by simp [k1, k2, k3, k4]), if_neg k5, if_neg k6, if_neg k7])
  go_wp2_with fail
  go_loopg [21] 60 (fun g x21 wr => ∃ (j : Nat) (G1 F1 G2 F2 : Nat → Prop), j + g = 60 ∧ x21 = .int .i64 j ∧ Ld W wr r nb (tk0 st j) (c + 2 * j) G1 F1 r' nb' (tk0 st j) (c' + j) G2 F2)
  case atStart => exact ⟨0, G, F, G', F', by omega, rfl, HH.out.1⟩
  case round =>
    obtain ⟨j, G1, F1, G2, F2, hj, rfl, hL⟩ := hrel
    have HJ := Lib.hid hj
    have HL := Lib.hid hL
    have hj60 : j ≤ 60 := by omega
    clear hj hL
    by_cases hlt : j < 60
    · have hlt' : (j : Int) < 60 := by omega
      have HS := Lib.hid (take_any r nb (tk0 st j) (c + 2 * j) G1 F1 0 wr HL.out.l.rm (by omega))
      go_wp2_with fail
      refine HS.out.mono ?_
      rintro e w2 ⟨rfl, hT⟩
      obtain ⟨G3, F3, hL2, -, -⟩ := HL.out.stepM hT
      have HR := Lib.hid (rtake_any r' nb' (tk0 st j) (c' + j) G2 F2 0 w2 hL2.rf (HH.out.2.2.2.1 j) (by omega))
      have HL2 := Lib.hid hL2
      have hbb : (thereB (tk0 st j) 0 != thereB (tk0 st j) 0) = false := by simp
      clear hT hL2 HS
      go_wp2_with fail
      refine HR.out.mono ?_
      rintro e w3 ⟨rfl, hT⟩
      obtain ⟨G4, F4, hL3, -, -⟩ := HL2.out.stepF hT
      have HL3 := Lib.hid hL3
      clear hT hL3 HR
      go_wp2_with fail
      go_roundg (60 - (j + 1))
      case measure => have := HJ.out; omega
      case rel => exact ⟨j + 1, G3, F3, G4, F4, by have := HJ.out; omega, by go_num, HL3.out.mono (by omega) (by omega)⟩
    · have hje : j = 60 := by omega
      subst hje
      go_wp2_with fail
      go_ret
      exact HF.out _ _ _ _ _ _ _ _ (by omega) (by omega) HE.out HL.out
end Go.Proofs.Ytkpfgoalohbfeaa
