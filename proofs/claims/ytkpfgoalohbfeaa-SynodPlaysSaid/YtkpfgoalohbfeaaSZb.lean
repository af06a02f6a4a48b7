/- SynodApart. -/
import Derived.Test.YtkpfgoalohbfeaaSX
import Derived.Test.YtkpfgoalohbfeaaSZa
import Derived.Deep.CutBlock
import Derived.Deep.DeepCutAuto
namespace Go.Proofs.Ytkpfgoalohbfeaa
open Go.RowKit

/-- Three rooms that lie apart. -/
structure Ap (W w : World) (r1 n1 r2 n2 r3 n3 : Nat) (s1 s2 s3 : Sy) (c1 c2 c3 : Nat) (G1 F1 G2 F2 G3 F3 : Nat → Prop) : Prop where
  l1 : Lr W w r1 n1 s1 c1 G1 F1
  l2 : Lr W w r2 n2 s2 c2 G2 F2
  l3 : Lr W w r3 n3 s3 c3 G3 F3
  d12 : ∀ k, F1 k → ¬ F2 k
  d13 : ∀ k, F1 k → ¬ F3 k
  d23 : ∀ k, F2 k → ¬ F3 k
section
variable {W w w' : World} {r1 n1 r2 n2 r3 n3 : Nat} {s1 s2 s3 s' : Sy} {c1 c2 c3 c' : Nat} {G1 F1 G2 F2 G3 F3 X : Nat → Prop}
set_option linter.unusedVariables false
theorem Ap.off (h : Ap W w r1 n1 r2 n2 r3 n3 s1 s2 s3 c1 c2 c3 G1 F1 G2 F2 G3 F3) (hf : Fr X w w') (hX : ∀ k, X k → W.heap.size ≤ k ∧ ¬ F1 k ∧ ¬ F2 k ∧ ¬ F3 k) : Ap W w' r1 n1 r2 n2 r3 n3 s1 s2 s3 c1 c2 c3 G1 F1 G2 F2 G3 F3 :=
  ⟨h.l1.off hf (fun k hk => ⟨(hX k hk).2.1, (hX k hk).1⟩), h.l2.off hf (fun k hk => ⟨(hX k hk).2.2.1, (hX k hk).1⟩), h.l3.off hf (fun k hk => ⟨(hX k hk).2.2.2, (hX k hk).1⟩), h.d12, h.d13, h.d23⟩
theorem Ap.up (h : Ap W w r1 n1 r2 n2 r3 n3 s1 s2 s3 c1 c2 c3 G1 F1 G2 F2 G3 F3) (hf : Fr (fun _ => False) w w') : Ap W w' r1 n1 r2 n2 r3 n3 s1 s2 s3 c1 c2 c3 G1 F1 G2 F2 G3 F3 := h.off hf (fun _ h => h.elim)
theorem Ap.new (h : Ap W w r1 n1 r2 n2 r3 n3 s1 s2 s3 c1 c2 c3 G1 F1 G2 F2 G3 F3) (hf : Fr (fun k => w.heap.size ≤ k) w w') : Ap W w' r1 n1 r2 n2 r3 n3 s1 s2 s3 c1 c2 c3 G1 F1 G2 F2 G3 F3 :=
  h.off hf (fun k hk => ⟨Nat.le_trans h.l1.fr.size hk, h.l1.notF hk, h.l2.notF hk, h.l3.notF hk⟩)
theorem Ap.mono3 (h : Ap W w r1 n1 r2 n2 r3 n3 s1 s2 s3 c1 c2 c3 G1 F1 G2 F2 G3 F3) (hc : c3 ≤ c') : Ap W w r1 n1 r2 n2 r3 n3 s1 s2 s3 c1 c2 c' G1 F1 G2 F2 G3 F3 := ⟨h.l1, h.l2, ⟨h.l3.rm.mono hc, h.l3.lo, h.l3.fr⟩, h.d12, h.d13, h.d23⟩
theorem Ap.swap12 (h : Ap W w r1 n1 r2 n2 r3 n3 s1 s2 s3 c1 c2 c3 G1 F1 G2 F2 G3 F3) : Ap W w r2 n2 r1 n1 r3 n3 s2 s1 s3 c2 c1 c3 G2 F2 G1 F1 G3 F3 := ⟨h.l2, h.l1, h.l3, fun k h2 h1 => h.d12 k h1 h2, h.d23, h.d13⟩
theorem Ap.swap13 (h : Ap W w r1 n1 r2 n2 r3 n3 s1 s2 s3 c1 c2 c3 G1 F1 G2 F2 G3 F3) : Ap W w r3 n3 r2 n2 r1 n1 s3 s2 s1 c3 c2 c1 G3 F3 G2 F2 G1 F1 := ⟨h.l3, h.l2, h.l1, fun k h3 h2 => h.d23 k h2 h3, fun k h3 h1 => h.d13 k h1 h3, fun k h2 h1 => h.d12 k h1 h2⟩
theorem Ap.next1 (h : Ap W w r1 n1 r2 n2 r3 n3 s1 s2 s3 c1 c2 c3 G1 F1 G2 F2 G3 F3) (hT : RmTo w r1 n1 s' c' G1 F1 w') : ∃ G' F', Ap W w' r1 n1 r2 n2 r3 n3 s' s2 s3 c' c2 c3 G' F' G2 F2 G3 F3 := by
  obtain ⟨G', F', h1, h2, h3⟩ := h.l1.next hT
  refine ⟨G', F', h1, h.l2.off h3 (fun k hk => ⟨h.d12 k (h.l1.rm.GF k hk), h.l1.lo k (h.l1.rm.GF k hk)⟩), h.l3.off h3 (fun k hk => ⟨h.d13 k (h.l1.rm.GF k hk), h.l1.lo k (h.l1.rm.GF k hk)⟩), fun k hk hk2 => ?_, fun k hk hk2 => ?_, h.d23⟩
  · rcases h2 k hk with h4 | h4
    · exact h.d12 k h4 hk2
    · have := h.l2.rm.lt k hk2; omega
  · rcases h2 k hk with h4 | h4
    · exact h.d13 k h4 hk2
    · have := h.l3.rm.lt k hk2; omega
theorem Ap.next2 (h : Ap W w r1 n1 r2 n2 r3 n3 s1 s2 s3 c1 c2 c3 G1 F1 G2 F2 G3 F3) (hT : RmTo w r2 n2 s' c' G2 F2 w') : ∃ G' F', Ap W w' r1 n1 r2 n2 r3 n3 s1 s' s3 c1 c' c3 G1 F1 G' F' G3 F3 := by
  obtain ⟨G', F', h1⟩ := h.swap12.next1 hT
  exact ⟨G', F', h1.swap12⟩
theorem Ap.next3 (h : Ap W w r1 n1 r2 n2 r3 n3 s1 s2 s3 c1 c2 c3 G1 F1 G2 F2 G3 F3) (hT : RmTo w r3 n3 s' c' G3 F3 w') : ∃ G' F', Ap W w' r1 n1 r2 n2 r3 n3 s1 s2 s' c1 c2 c' G1 F1 G2 F2 G' F' := by
  obtain ⟨G', F', h1⟩ := h.swap13.next1 hT
  exact ⟨G', F', h1.swap13⟩
end
theorem vtm_of {v : Vt} (h : VWf v) : VtM v := by
  have h1 := h.n
  unfold lastN at h1
  exact ⟨by have := h.s; omega, by omega, by have := h.d0; omega, by have := h.d1; omega, by have := h.l; unfold maxLen; omega⟩

theorem look_one (r nb : Nat) (st : Sy) (c : Nat) (G F : Nat → Prop) (a : Int) (w : World) (h : Rm w r nb st c G F) :
    Calls Try.prog 29 #[.pointer (some ⟨r, 0, none⟩), .int .i64 a] w fun e w' => ∃ (m : Lt) (va : Option Addr) (vc : Nat) (vs : List Value) (b : Bool), e = .returned (.tuple #[mailV m (.slice va m.vs.length vc), .bool b]) ∧ Cpy w w' (.slice va m.vs.length vc) m.vs vs ∧ m.vs.length ≤ 1 := by
  have hwf := h.wf
  refine (look_any r nb st c G F a w h).mono ?_
  rintro e w' (⟨_, rfl, hf⟩ | ⟨m, va, vc, vs, h1, rfl, hC⟩)
  · exact ⟨⟨0, 0, 0, 0, 0, []⟩, none, 0, [], false, rfl, (Cpy.nil w).up hf, Nat.zero_le _⟩
  · exact ⟨m, va, vc, vs, true, rfl, hC, (hwf.cut_at h1).len⟩
theorem Cpy.later {w0 w w' : World} {v : Value} {l : List Vt} {vs : List Value} {X : Nat → Prop} (h : Cpy w0 w v l vs) (hf : Fr X w w') (hX : ∀ k, X k → w.heap.size ≤ k) : Cpy w0 w' v l vs := by
  have hs := h.fr.size
  refine ⟨own_fr h.row hf (fun k hk hx => ?_), h.len, fun i p s h1 h2 => own_fr (h.val i p s h1 h2) hf (fun k hk hx => ?_), h.fr.trans hf (fun k hk hx => hx.elim id (fun hx => by have := hX k hx; omega))⟩
  · have h1 := own_lt h.row hk
    have h2 := hX k hx
    omega
  · have h3 := own_lt (h.val i p s h1 h2) hk
    have h4 := hX k hx
    omega
theorem Cpy.at {w0 w : World} {v : Value} {l : List Vt} {vs : List Value} (h : Cpy w0 w v l vs) {j : Nat} {p : Vt} (hp : l[j]? = some p) :
    ∃ g lc cur u, v = .slice (some ⟨g, 0, none⟩) l.length lc ∧ w0.heap.size ≤ g ∧ Blk w g 46 cur ∧ w.ownsRow w0.heap.size 5 1 u p.v.length (u8s p.v) ∧ w.cell? ⟨g, j * 4 + 3, none⟩ = some u ∧ ∃ z, w.cell? ⟨g, j * 4, none⟩ = some z := by
  have hj := (List.getElem?_eq_some_iff.1 hp).1
  have hjv : j < vs.length := by rw [h.len]; exact hj
  obtain ⟨e1, e2, e3, e4⟩ := flatV_get l vs j p vs[j] hp (List.getElem?_eq_getElem hjv)
  have hrow := h.row
  rcases own_form hrow with ⟨rfl, hL, _⟩ | ⟨g, cap, cur, rfl, hg, hB, _⟩
  · omega
  · exact ⟨g, cap, cur, vs[j], rfl, hg, hB, h.val j p _ hp (List.getElem?_eq_getElem hjv), own_cell (own_base hrow) _ e4, _, own_cell (own_base hrow) _ e1⟩

set_option maxRecDepth 100000 in
set_option maxHeartbeats 32000000 in
theorem apart_law (v : Value) (l : List Ac) (u : Value) (more : List Ac) (W : World) (hv : AcL W v l (fun k => W.heap.size ≤ k)) (hu : AcL W u more (fun k => W.heap.size ≤ k)) :
    Calls Try.prog 8 #[v, u] W fun e w' => e = .returned (.bool true) ∧ Below W.heap.size W w' := by
  have HV := Lib.hid hv
  have HU := Lib.hid hu
  obtain ⟨va, vc, rfl, hll, hat0⟩ := hv
  obtain ⟨ua, uc, rfl, hul, hat1⟩ := hu
  have HAt := Lib.hid hat0
  have HAu := Lib.hid hat1
  unfold maxLen at hll hul
  clear hat0 hat1
  go_enter Try.func8, Try.ntmps8
  go_wp2_with fail
  refine (three_any W).mono ?_
  rintro e w1 ⟨rfl, hf1⟩
  have HF1 := Lib.hid hf1
  clear hf1
  simp only [Qu.v]
  go_wp2_with fail
  refine (snew_ok Q3 (.slice none 0 0) w1 (ints_nil w1) (fun c e => by injection e with _ _ e; exact e.symm) (Nat.zero_le _) (by kernel_rfl)).mono ?_
  rintro e w2 ⟨r1, n1, G1, rfl, hR2, hf2⟩
  have L1 : Lr W w2 r1 n1 (room0 Q3) 0 G1 _ := ⟨hR2, fun k hk => by have := HF1.out.size; omega, HF1.out.tr hf2⟩
  generalize (fun k => w1.heap.size ≤ k ∧ k < w2.heap.size) = F1 at L1
  have HL1 := Lib.hid L1
  clear L1 hR2 hf2
  go_wp2_with fail
  refine (three_any w2).mono ?_
  rintro e w3 ⟨rfl, hf3⟩
  have HF3 := Lib.hid hf3
  clear hf3
  simp only [Qu.v]
  go_wp2_with fail
  refine (snew_ok Q3 (.slice none 0 0) w3 (ints_nil w3) (fun c e => by injection e with _ _ e; exact e.symm) (Nat.zero_le _) (by kernel_rfl)).mono ?_
  rintro e w4 ⟨r2, n2, G2, rfl, hR4, hf4⟩
  have L1 := (HL1.out.up HF3.out).up hf4
  obtain ⟨F2, hF2⟩ : ∃ F2 : Nat → Prop, F2 = fun k => w3.heap.size ≤ k ∧ k < w4.heap.size := ⟨_, rfl⟩
  have L2 : Lr W w4 r2 n2 (room0 Q3) 0 G2 F2 := by rw [hF2]; exact ⟨hR4, fun k hk => by have := (HL1.out.up HF3.out).fr.size; omega, L1.fr⟩
  have d12 : ∀ k, F1 k → ¬ F2 k := fun k h1 h2 => by rw [hF2] at h2; have := (HL1.out.up HF3.out).rm.lt k h1; omega
  have HL2 := Lib.hid (And.intro L1 (And.intro L2 d12))
  clear L1 L2 d12 hF2 hR4 hf4 HL1 HF3 HF1
  go_wp2_with fail
  refine (three_any w4).mono ?_
  rintro e w5 ⟨rfl, hf5⟩
  have HF5 := Lib.hid hf5
  clear hf5
  simp only [Qu.v]
  go_wp2_with fail
  refine (snew_ok Q3 (.slice none 0 0) w5 (ints_nil w5) (fun c e => by injection e with _ _ e; exact e.symm) (Nat.zero_le _) (by kernel_rfl)).mono ?_
  rintro e w6 ⟨r3, n3, G3, rfl, hR6, hf6⟩
  have L1 := (HL2.out.1.up HF5.out).up hf6
  have L2 := (HL2.out.2.1.up HF5.out).up hf6
  obtain ⟨F3, hF3⟩ : ∃ F3 : Nat → Prop, F3 = fun k => w5.heap.size ≤ k ∧ k < w6.heap.size := ⟨_, rfl⟩
  have L3 : Lr W w6 r3 n3 (room0 Q3) 0 G3 F3 := by rw [hF3]; exact ⟨hR6, fun k hk => by have := (HL2.out.1.up HF5.out).fr.size; omega, L1.fr⟩
  have d13 : ∀ k, F1 k → ¬ F3 k := fun k h1 h2 => by rw [hF3] at h2; have := (HL2.out.1.up HF5.out).rm.lt k h1; omega
  have d23 : ∀ k, F2 k → ¬ F3 k := fun k h1 h2 => by rw [hF3] at h2; have := (HL2.out.2.1.up HF5.out).rm.lt k h1; omega
  have hA : Ap W w6 r1 n1 r2 n2 r3 n3 (room0 Q3) (room0 Q3) (room0 Q3) 0 0 0 G1 F1 G2 F2 G3 F3 := ⟨L1, L2, L3, HL2.out.2.2, d13, d23⟩
  have HA := Lib.hid hA
  have HLong := Lib.hid (along_any (.slice va l.length vc) l _ w6 (HV.out.up L1.fr (fun _ h => h.elim)))
  have HLong2 := Lib.hid (along_any (.slice ua more.length uc) more _ w6 (HU.out.up L1.fr (fun _ h => h.elim)))
  clear L1 L2 L3 d13 d23 hF3 hA hR6 hf6 HL2 HF5
  go_wp2_with fail
  refine HLong.out.mono ?_
  rintro e w7 ⟨b, rfl, rfl, hsh⟩
  cases b with
  | true =>
    go_wp2_with fail
    refine (known_any w6).mono ?_
    rintro e w7 ⟨rfl, hf7⟩
    have HF7 := Lib.hid (HA.out.l1.fr.tr hf7)
    clear hf7
    go_wp2_with fail
    go_ret
    exact ⟨rfl, (HF7.out.mono (fun _ _ h => h.elim) : Fr (fun k => W.heap.size ≤ k) W _).below (Nat.le_refl _)⟩
  | false =>
    have HSh := Lib.hid (hsh rfl)
    clear hsh HLong
    go_wp2_with fail
    refine HLong2.out.mono ?_
    rintro e w7 ⟨b, rfl, rfl, hsh⟩
    cases b with
    | true =>
      go_wp2_with fail
      refine (known_any w6).mono ?_
      rintro e w7 ⟨rfl, hf7⟩
      have HF7 := Lib.hid (HA.out.l1.fr.tr hf7)
      clear hf7
      go_wp2_with fail
      go_ret
      exact ⟨rfl, (HF7.out.mono (fun _ _ h => h.elim) : Fr (fun k => W.heap.size ≤ k) W _).below (Nat.le_refl _)⟩
    | false =>
      have HSh2 := Lib.hid (hsh rfl)
      clear hsh HLong2
      go_wp2_with fail
      go_loopg [11] l.length (fun g x11 wr => ∃ (i : Nat) (st s3 : Sy) (cc : Nat) (G1 F1 G2 F2 G3 F3 : Nat → Prop), i + g = l.length ∧ i ≤ 80 ∧ x11 = .int .i64 i ∧ cc ≤ 120 * i ∧ st.N = 3 ∧ s3.N = 3 ∧ Ap W wr r1 n1 r2 n2 r3 n3 st st s3 cc cc cc G1 F1 G2 F2 G3 F3)
      case atStart => exact ⟨0, _, _, 0, G1, F1, G2, F2, G3, F3, by omega, by omega, rfl, by omega, rfl, rfl, HA.out⟩
      case round =>
        clear HA
        obtain ⟨i, st, s3, cc, G1, F1, G2, F2, G3, F3, hi, hi80, rfl, hcc, hN, hN3, hA⟩ := hrel
        have HI := Lib.hid (And.intro hi (And.intro hcc (And.intro hN hN3)))
        have hi' : i ≤ l.length := by omega
        have HA := Lib.hid hA
        clear hi hcc hN hN3 hA
        by_cases hlt : i < l.length ∧ i < 80
        · obtain ⟨hlt, hlt2⟩ := hlt
          have hlt3 : (i : Int) < 80 := by omega
          obtain ⟨x, hx⟩ : ∃ x, l[i]? = some x := ⟨_, List.getElem?_eq_getElem hlt⟩
          obtain ⟨b, off, vs, rfl, hat⟩ := HAt.out i x hx
          have hxl := HSh.out i x hlt (by omega) hx
          have HX := Lib.hid hat
          have hat' := hat.up HA.out.l1.fr (fun _ h => h.elim)
          have hplay := play_any r1 n1 st cc G1 F1 x vs wr HA.out.l1.rm hat'.own (fun k hk hne hg => by
            have h1 := hat.ox k hk hne; have h2 := HA.out.l1.lo k (HA.out.l1.rm.GF k hg); omega) hxl (by have := HI.out.2.1; unfold maxLen; omega)
          rw [HI.out.2.2.1] at hplay
          obtain ⟨sa, sc, rfl, -, -⟩ := hat'.own
          have q0 := hat'.c0
          have q1 := hat'.c1
          have q2 := hat'.c2
          have HPl := Lib.hid hplay
          clear hat hat' hx hplay
          go_wp2_with fail
          refine HPl.out.mono ?_
          rintro e w4 ⟨rfl, hT⟩
          obtain ⟨G1, F1, hA4⟩ := HA.out.next1 hT
          have hat' := HX.out.up hA4.l1.fr (fun _ h => h.elim)
          have hplay := play_any r2 n2 st cc G2 F2 x (.slice sa x.v.length sc) w4 hA4.l2.rm hat'.own (fun k hk hne hg => by
            have h1 := HX.out.ox k hk hne; have h2 := hA4.l2.lo k (hA4.l2.rm.GF k hg); omega) hxl (by have := HI.out.2.1; unfold maxLen; omega)
          rw [HI.out.2.2.1] at hplay
          have HA4 := Lib.hid hA4
          have HPl2 := Lib.hid hplay
          clear hT hA4 hplay HPl HA q0 q1 q2
          have q0 := hat'.c0
          have q1 := hat'.c1
          have q2 := hat'.c2
          clear hat'
          go_wp2_with fail
          refine HPl2.out.mono ?_
          rintro e w5 ⟨rfl, hT⟩
          obtain ⟨G2, F2, hA5⟩ := HA4.out.next2 hT
          have hN5 : (actS st x).N = 3 := (act_go st x).1.N.trans HI.out.2.2.1
          obtain ⟨st5, hst5⟩ : ∃ st5, st5 = actS st x := ⟨_, rfl⟩
          rw [← hst5] at hA5 hN5
          have HA5 := Lib.hid hA5
          have HN5 := Lib.hid hN5
          clear hT hA5 hN5 hst5 HA4 HPl2 q0 q1 q2
          by_cases hmo : i < more.length
          case' pos =>
            obtain ⟨y, hy⟩ : ∃ y, more[i]? = some y := ⟨_, List.getElem?_eq_getElem hmo⟩
            obtain ⟨b', off', vs', rfl, hat⟩ := HAu.out i y hy
            have hyl := HSh2.out i y hmo (by omega) hy
            have hat' := hat.up HA5.out.l3.fr (fun _ h => h.elim)
            have hplay := play_any r3 n3 s3 cc G3 F3 y vs' w5 HA5.out.l3.rm hat'.own (fun k hk hne hg => by
              have h1 := hat.ox k hk hne; have h2 := HA5.out.l3.lo k (HA5.out.l3.rm.GF k hg); omega) hyl (by have := HI.out.2.1; unfold maxLen; omega)
            rw [HI.out.2.2.2] at hplay
            obtain ⟨ya, yc, rfl, -, -⟩ := hat'.own
            have q0 := hat'.c0
            have q1 := hat'.c1
            have q2 := hat'.c2
            have HPl := Lib.hid hplay
            clear hat hat' hy hplay
            go_wp2_with fail
            refine HPl.out.mono ?_
            rintro e w6 ⟨rfl, hT⟩
            obtain ⟨G3, F3, hA6⟩ := HA5.out.next3 hT
            obtain ⟨s6, hs6⟩ : ∃ s6, s6 = actS s3 y := ⟨_, rfl⟩
            have hN6 : (actS s3 y).N = 3 := (act_go s3 y).1.N.trans HI.out.2.2.2
            rw [← hs6] at hA6 hN6
            have HA6 := Lib.hid hA6
            have HN6 := Lib.hid hN6
            clear hT hs6 hA6 hN6 HPl HA5 q0 q1 q2 hyl
          case' neg =>
            go_upto_region 13 with (fail)
            obtain ⟨w6, hw6⟩ : ∃ w6, w6 = w5 := ⟨_, rfl⟩
            obtain ⟨s6, hs6⟩ : ∃ s6, s6 = s3 := ⟨_, rfl⟩
            have hA6 := HA5.out.mono3 (show cc ≤ cc + 120 by omega)
            have hN6 := HI.out.2.2.2
            rw [← hw6, ← hs6] at hA6
            rw [← hs6] at hN6
            rw [← hw6]
            have HA6 := Lib.hid hA6
            have HN6 := Lib.hid hN6
            clear hA6 hN6 hw6 hs6 HA5
          all_goals
            go_wp2_with fail
            go_loopg [12] 3 (fun g x12 wr => ∃ (k : Nat), k + g = 3 ∧ x12 = .int .i64 k ∧ Ap W wr r1 n1 r2 n2 r3 n3 st5 st5 s6 (cc + 120) (cc + 120) (cc + 120) G1 F1 G2 F2 G3 F3)
            case atStart => exact ⟨0, by omega, rfl, HA6.out⟩
            case round =>
              clear HA6
              obtain ⟨k, hk, rfl, hA⟩ := hrel
              have HK := Lib.hid hk
              have hk' : k ≤ 3 := by omega
              have HA := Lib.hid hA
              clear hk hA
              by_cases hk3 : k < 3
              · have hk3i : (k : Int) < 3 := by omega
                have HLk := Lib.hid (look_one r1 n1 st5 (cc + 120) G1 F1 (k : Int) wr HA.out.l1.rm)
                go_wp2_with fail
                refine HLk.out.mono ?_
                rintro e w7 ⟨m, va7, vc7, vs7, b7, rfl, hC, hml⟩
                obtain ⟨w8, hw8⟩ : ∃ w8, w8 = w7.alloc (.cells #[.int .i64 m.k, .int .i64 (m.fr : Int), .int .i64 (m.dst : Int), .int .u64 (m.n : Int), .int .i64 m.d, .slice va7 m.vs.length vc7] 68) := ⟨_, rfl⟩
                have hf8 : Fr (fun _ => False) w7 w8 := by rw [hw8]; exact (Fr.refl _ w7).alloc _
                have hM8 : Blk w8 w7.heap.size 68 #[.int .i64 m.k, .int .i64 (m.fr : Int), .int .i64 (m.dst : Int), .int .u64 (m.n : Int), .int .i64 m.d, .slice va7 m.vs.length vc7] := by rw [hw8]; exact Blk.new _ _ _
                obtain ⟨bm, hbm⟩ : ∃ b, b = w7.heap.size := ⟨_, rfl⟩
                rw [← hbm] at hM8
                have hfr8 := hC.fr.tr hf8
                have HLr := Lib.hid (lrn_any r1 n1 st5 (cc + 120) G1 F1 (k : Int) w8 ((HA.out.up hfr8).l1.rm))
                have HW8 := Lib.hid (And.intro hw8 hbm)
                have HC := Lib.hid (And.intro hC (And.intro hM8 (And.intro hf8 hml)))
                clear hw8 hbm hf8 hM8 hfr8 hC hml HLk
                simp only [mailV]
                go_upto_region 17 with (fail)
                rw [← HW8.out.1, ← HW8.out.2]
                go_wp2_with fail
                refine HLr.out.mono ?_
                rintro e w9 ⟨za, zc, rfl, ho9, hf9⟩
                have HVo := Lib.hid (voted_any r1 n1 st5 (cc + 120) G1 F1 (k : Int) w9 ((HA.out.up ((HC.out.1.fr.tr HC.out.2.2.1).tr hf9)).l1.rm))
                generalize votN st5 (k : Int) = pn at HVo
                generalize votD st5 (k : Int) = pd at HVo
                generalize votV st5 (k : Int) = V at HVo
                generalize (lrnB st5 (k : Int)).getD [] = lb at ho9
                have HF9 := Lib.hid (And.intro ho9 hf9)
                clear ho9 hf9 HLr
                go_wp2_with fail
                refine HVo.out.mono ?_
                rintro e w10 ⟨xa, xc, rfl, ho10, hf10⟩
                obtain ⟨w11, hw11⟩ : ∃ w11, w11 = (w10.alloc (.cells #[.int .u64 (pn : Int), .int .i64 pd] 44)).alloc (.cells #[.int .u64 V.s, .int .u64 V.n, .int .i64 V.d, .slice xa V.v.length xc] 46) := ⟨_, rfl⟩
                have hf11 : Fr (fun _ => False) w10 w11 := by rw [hw11]; exact ((Fr.refl _ w10).alloc _).alloc _
                have hV11 : Blk w11 (w10.heap.size + 1) 46 #[.int .u64 V.s, .int .u64 V.n, .int .i64 V.d, .slice xa V.v.length xc] := by
                  have := Blk.new (w10.alloc (.cells #[.int .u64 (pn : Int), .int .i64 pd] 44)) 46 #[.int .u64 V.s, .int .u64 V.n, .int .i64 V.d, .slice xa V.v.length xc]
                  rw [hw11]; simpa using this
                obtain ⟨bb, hbb⟩ : ∃ b, b = w10.heap.size := ⟨_, rfl⟩
                rw [← hbb] at hV11
                have hoz := own_fr (own_base HF9.out.1) (hf10.tr hf11) (fun _ _ h => h)
                have hox := own_fr (own_base ho10) hf11 (fun _ _ h => h)
                have hM11 := (HC.out.2.1.fr HF9.out.2 (fun h => h)).fr (hf10.tr hf11) (fun h => h)
                have hne : ∀ j, (Value.slice za lb.length zc).ownBlock = some j → ¬ (Value.slice xa V.v.length xc).ownBlock = some j := fun j h1 h2 => by
                  have h3 := own_lt HF9.out.1 h1
                  have h4 := (ho10.lt j h2).1
                  omega
                have hge : (∀ j, (Value.slice za lb.length zc).ownBlock = some j → w7.heap.size ≤ j) ∧ (∀ j, (Value.slice xa V.v.length xc).ownBlock = some j → w7.heap.size ≤ j) := by
                  have h1 := HC.out.2.2.1.size
                  have h2 := HF9.out.2.size
                  exact ⟨fun j hj => by have := (HF9.out.1.lt j hj).1; omega, fun j hj => by have := (ho10.lt j hj).1; omega⟩
                have hf711 : Fr (fun k => w7.heap.size ≤ k) w7 w11 := (((HC.out.2.2.1.tr HF9.out.2).tr hf10).tr hf11).none_up
                have HW11 := Lib.hid (And.intro hw11 hbb)
                have HS := Lib.hid (And.intro hoz (And.intro hox (And.intro hM11 (And.intro hV11 (And.intro hne (And.intro hge hf711))))))
                clear hw11 hbb hf11 hV11 hoz hox hM11 hne hge hf711 ho10 hf10 HVo HF9
                go_upto_region 19 with (fail)
                rw [← HW11.out.1, ← HW11.out.2]
                clear HW11 HW8
                go_wp2_with fail
                refine (spoil_any _ lb w11 HS.out.1).mono ?_
                rintro e w12 ⟨rfl, hf12⟩
                have hV12 := HS.out.2.2.2.1.fr hf12 (fun e => own_blk_ne HS.out.1 HS.out.2.2.2.1 (by decide) _ e rfl)
                have hM12 := HS.out.2.2.1.fr hf12 (fun e => own_blk_ne HS.out.1 HS.out.2.2.1 (by decide) _ e rfl)
                have hox12 := own_fr HS.out.2.1 hf12 (fun j h1 h2 => HS.out.2.2.2.2.1 j h2 h1)
                have hf712 : Fr (fun k => w7.heap.size ≤ k) w7 w12 := HS.out.2.2.2.2.2.2.tr (hf12.mono fun j _ hj => HS.out.2.2.2.2.2.1.1 j hj)
                have HS12 := Lib.hid (And.intro hox12 (And.intro hV12 (And.intro hM12 hf712)))
                have x3 := hV12.cell 3 rfl
                clear hV12 hM12 hox12 hf712 hf12
                go_wp2_with fail
                refine (spoil_any _ V.v w12 HS12.out.1).mono ?_
                rintro e w13 ⟨rfl, hf13⟩
                have hM13 := HS12.out.2.2.1.fr hf13 (fun e => own_blk_ne HS12.out.1 HS12.out.2.2.1 (by decide) _ e rfl)
                have hf713 : Fr (fun k => w7.heap.size ≤ k) w7 w13 := HS12.out.2.2.2.tr (hf13.mono fun j _ hj => HS.out.2.2.2.2.2.1.2 j hj)
                have hC13 := HC.out.1.later hf713 (fun _ h => h)
                have hfw : Fr (fun k => wr.heap.size ≤ k) wr w13 := hC13.fr.none_up
                have hml := HC.out.2.2.2
                have HS13 := Lib.hid (And.intro hC13 (And.intro hM13 hfw))
                clear hM13 hf713 hC13 hfw hf13 x3 HS12 HS
                go_wp2_with fail
                go_loopg [19] m.vs.length (fun g x19 wx => ∃ (j : Nat), j + g = m.vs.length ∧ x19 = .int .i64 j ∧ Blk wx bm 68 #[.int .i64 m.k, .int .i64 (m.fr : Int), .int .i64 (m.dst : Int), .int .u64 (m.n : Int), .int .i64 m.d, .slice va7 m.vs.length vc7] ∧ Fr (fun k => wr.heap.size ≤ k) wr wx ∧ (j = 0 → Cpy wr wx (.slice va7 m.vs.length vc7) m.vs vs7))
                case atStart => exact ⟨0, by omega, rfl, HS13.out.2.1, HS13.out.2.2, fun _ => HS13.out.1⟩
                case round =>
                  clear HS13
                  obtain ⟨j, hj, rfl, hM, hfw, hC0⟩ := hrel
                  have HJ := Lib.hid (And.intro hj (And.intro hM hfw))
                  have m5 := hM.cell 5 rfl
                  have hj' : j ≤ m.vs.length := by omega
                  clear hj
                  by_cases hjl : j < m.vs.length
                  · obtain ⟨p, hp⟩ : ∃ p, m.vs[j]? = some p := ⟨_, List.getElem?_eq_getElem hjl⟩
                    obtain ⟨g, lc, cur, u, he, hg, hB, hu, h3, z, h0⟩ := (hC0 (by omega)).at hp
                    injection he with e1 _ e2
                    subst e1 e2
                    obtain ⟨ya, yc, rfl⟩ := own_sl5 hu
                    have hj0 : (0 : Int) ≤ (j : Int) := by omega
                    have hj1 : (j : Int) < (m.vs.length : Int) := by omega
                    have HB := Lib.hid (And.intro hB (And.intro hu hg))
                    clear hB hu hg hp hC0 hM hfw
                    go_wp2_with fail
                    refine (spoil_any _ p.v wr (own_base HB.out.2.1)).mono ?_
                    rintro e w14 ⟨rfl, hf14⟩
                    have hng : ¬ (Value.slice ya p.v.length yc).ownBlock = some g := fun e => own_blk_ne HB.out.2.1 HB.out.1 (by decide) _ e rfl
                    have hnm : ¬ (Value.slice ya p.v.length yc).ownBlock = some bm := fun e => own_blk_ne HB.out.2.1 HJ.out.2.1 (by decide) _ e rfl
                    have hM14 := HJ.out.2.1.fr hf14 hnm
                    have hB14 := HB.out.1.fr hf14 hng
                    have hfw14 := HJ.out.2.2.tr (hf14.mono fun i _ hi => (HB.out.2.1.lt i hi).1)
                    have g0 := hf14.cell h0 hng
                    have gf := hB14.frozen (j * 4)
                    have HS14 := Lib.hid (And.intro hM14 (And.intro hB14 hfw14))
                    clear m5 h3 h0 hM14 hB14 hfw14 hf14 hng hnm
                    have m5 := HS14.out.1.cell 5 rfl
                    go_wp2_with fail
                    go_roundg (m.vs.length - (j + 1))
                    case measure => have := HJ.out.1; omega
                    case rel => exact ⟨j + 1, by have := HJ.out.1; omega, by go_num, HS14.out.1.fr (Fr.set1 _ g (j * 4) _) (fun e => HS14.out.1.ne_ HS14.out.2.1 (by decide) e), HS14.out.2.2.tr ((Fr.set1 _ g (j * 4) _).mono fun i _ hi => by rw [hi]; exact HB.out.2.2), fun h => by omega⟩
                  · obtain rfl : j = m.vs.length := by omega
                    clear hC0 hM hfw
                    go_wp2_with fail
                    go_roundg (3 - (k + 1))
                    case measure => have := HK.out; omega
                    case rel => exact ⟨k + 1, by have := HK.out; omega, by go_num, HA.out.new HJ.out.2.2⟩
              · obtain rfl : k = 3 := by omega
                have HLn := Lib.hid (len_any r1 n1 st5 (cc + 120) G1 F1 wr HA.out.l1.rm)
                have HLn2 := Lib.hid (len_any r2 n2 st5 (cc + 120) G2 F2 wr HA.out.l2.rm)
                have hwf := HA.out.l1.rm.wf
                have hl200 := hwf.len
                have HWf := Lib.hid hwf
                clear hwf
                go_wp2_with fail
                refine HLn.out.mono ?_
                rintro e w7 ⟨rfl, rfl⟩
                go_wp2_with fail
                refine HLn2.out.mono ?_
                rintro e w7 ⟨rfl, rfl⟩
                clear HLn HLn2
                go_wp2_with fail
                go_loopg [20] st5.l.length (fun g x20 wr => ∃ (k : Nat), k + g = st5.l.length ∧ x20 = .int .i64 k ∧ Ap W wr r1 n1 r2 n2 r3 n3 st5 st5 s6 (cc + 120) (cc + 120) (cc + 120) G1 F1 G2 F2 G3 F3)
                case atStart => exact ⟨0, by omega, rfl, HA.out⟩
                case round =>
                  clear HA
                  obtain ⟨k, hk, rfl, hA⟩ := hrel
                  have HK := Lib.hid hk
                  have hk' : k ≤ st5.l.length := by omega
                  have HA := Lib.hid hA
                  have HLn := Lib.hid (len_any r1 n1 st5 (cc + 120) G1 F1 wr hA.l1.rm)
                  clear hk hA
                  by_cases hkl : k < st5.l.length
                  · have hkl' : (k : Int) < (st5.l.length : Int) := by omega
                    have hat : ∃ m, st5.atL (k : Int) = some m ∧ m ∈ st5.l := by
                      refine ⟨st5.l[k], ?_, List.getElem_mem hkl⟩
                      unfold Sy.atL
                      rw [if_pos (by omega), Int.toNat_natCast]
                      exact List.getElem?_eq_getElem hkl
                    obtain ⟨m, hm, hmin⟩ := hat
                    have hlw := HWf.out.lt m hmin
                    have HM := Lib.hid (And.intro hm hlw)
                    have HLk := Lib.hid (look_any r1 n1 st5 (cc + 120) G1 F1 (k : Int) wr HA.out.l1.rm)
                    clear hm hmin hlw
                    go_wp2_with fail
                    refine HLn.out.mono ?_
                    rintro e w7 ⟨rfl, rfl⟩
                    clear HLn
                    go_wp2_with fail
                    refine HLk.out.mono ?_
                    rintro e w7 (⟨hno, -⟩ | ⟨m', va7, vc7, vs7, hm', rfl, hC⟩)
                    · rw [HM.out.1] at hno; cases hno
                    obtain rfl : m = m' := by rw [HM.out.1] at hm'; injection hm'
                    obtain ⟨w8, hw8⟩ : ∃ w8, w8 = w7.alloc (.cells #[.int .i64 m.k, .int .i64 (m.fr : Int), .int .i64 (m.dst : Int), .int .u64 (m.n : Int), .int .i64 m.d, .slice va7 m.vs.length vc7] 68) := ⟨_, rfl⟩
                    have hf8 : Fr (fun _ => False) w7 w8 := by rw [hw8]; exact (Fr.refl _ w7).alloc _
                    have hM8 : Blk w8 w7.heap.size 68 #[.int .i64 m.k, .int .i64 (m.fr : Int), .int .i64 (m.dst : Int), .int .u64 (m.n : Int), .int .i64 m.d, .slice va7 m.vs.length vc7] := by rw [hw8]; exact Blk.new _ _ _
                    obtain ⟨bm, hbm⟩ : ∃ b, b = w7.heap.size := ⟨_, rfl⟩
                    rw [← hbm] at hM8
                    have hA8 := HA.out.up (hC.fr.tr hf8)
                    have HLk2 := Lib.hid (look_any r2 n2 st5 (cc + 120) G2 F2 (k : Int) w8 hA8.l2.rm)
                    have HW8 := Lib.hid (And.intro hw8 hbm)
                    have HC := Lib.hid (And.intro (hC.up hf8) (And.intro hM8 hA8))
                    clear hw8 hbm hf8 hM8 hA8 hC hm' HLk
                    simp only [mailV]
                    go_upto_region 32 with (fail)
                    rw [← HW8.out.1, ← HW8.out.2]
                    go_wp2_with fail
                    refine HLk2.out.mono ?_
                    rintro e w9 (⟨hno, -⟩ | ⟨m', va9, vc9, vs9, hm', rfl, hC9⟩)
                    · rw [HM.out.1] at hno; cases hno
                    obtain rfl : m = m' := by rw [HM.out.1] at hm'; injection hm'
                    obtain ⟨w10, hw10⟩ : ∃ w10, w10 = w9.alloc (.cells #[.int .i64 m.k, .int .i64 (m.fr : Int), .int .i64 (m.dst : Int), .int .u64 (m.n : Int), .int .i64 m.d, .slice va9 m.vs.length vc9] 68) := ⟨_, rfl⟩
                    have hf10 : Fr (fun _ => False) w9 w10 := by rw [hw10]; exact (Fr.refl _ w9).alloc _
                    have hN10 : Blk w10 w9.heap.size 68 #[.int .i64 m.k, .int .i64 (m.fr : Int), .int .i64 (m.dst : Int), .int .u64 (m.n : Int), .int .i64 m.d, .slice va9 m.vs.length vc9] := by rw [hw10]; exact Blk.new _ _ _
                    obtain ⟨bn, hbn⟩ : ∃ b, b = w9.heap.size := ⟨_, rfl⟩
                    rw [← hbn] at hN10
                    have hM10 := HC.out.2.1.fr (hC9.fr.tr hf10) (fun h => h)
                    have hA10 := HC.out.2.2.up (hC9.fr.tr hf10)
                    have hvm : ∀ p ∈ m.vs, VtM p := fun p hp => vtm_of (HM.out.2.vs p hp)
                    have hml : m.vs.length ≤ maxLen := by have := HM.out.2.len; unfold maxLen; omega
                    have hV1 := (HC.out.1.up (hC9.fr.tr hf10)).vtl hvm hml
                    have hV2 := (hC9.up hf10).vtl hvm hml
                    have HSm := Lib.hid (msame_any m _ _ _ _ w10 hV1 hV2)
                    have HW10 := Lib.hid (And.intro hw10 hbn)
                    have HA10 := Lib.hid hA10
                    clear hw10 hbn hf10 hvm hml hV1 hV2 hA10 hC9 hm' HLk2 HC
                    simp only [mailV] at HSm ⊢
                    go_upto_region 33 with (fail)
                    rw [← HW10.out.1, ← HW10.out.2]
                    clear HW10 HW8
                    have m0 := hM10.cell 0 rfl
                    have m1 := hM10.cell 1 rfl
                    have m2 := hM10.cell 2 rfl
                    have m3 := hM10.cell 3 rfl
                    have m4 := hM10.cell 4 rfl
                    have m5 := hM10.cell 5 rfl
                    have p0 := hN10.cell 0 rfl
                    have p1 := hN10.cell 1 rfl
                    have p2 := hN10.cell 2 rfl
                    have p3 := hN10.cell 3 rfl
                    have p4 := hN10.cell 4 rfl
                    have p5 := hN10.cell 5 rfl
                    clear hM10 hN10
                    go_wp2_with fail
                    refine HSm.out.mono ?_
                    rintro e w11 ⟨rfl, hf11⟩
                    have HA11 := Lib.hid (HA10.out.up hf11)
                    clear hf11 m0 m1 m2 m3 m4 m5 p0 p1 p2 p3 p4 p5
                    go_wp2_with fail
                    go_roundg (st5.l.length - (k + 1))
                    case measure => have := HK.out; omega
                    case rel => exact ⟨k + 1, by have := HK.out; omega, by go_num, HA11.out⟩
                  · obtain rfl : k = st5.l.length := by omega
                    go_wp2_with fail
                    refine HLn.out.mono ?_
                    rintro e w7 ⟨rfl, rfl⟩
                    go_wp2_with fail
                    go_roundg (l.length - (i + 1))
                    case measure => have := HI.out.1; omega
                    case rel => exact ⟨i + 1, st5, s6, cc + 120, G1, F1, G2, F2, G3, F3, by have := HI.out.1; omega, by omega, by go_num, by have := HI.out.2.1; omega, HN5.out, HN6.out, HA.out⟩
        · have hcs : (i < l.length ∧ ¬ (i : Int) < 80) ∨ ¬ (i < l.length) := by omega
          rcases hcs with ⟨ha, hb⟩ | ha
          all_goals
            go_wp2_with fail
            refine (known_any wr).mono ?_
            rintro e w8 ⟨rfl, hf8⟩
            have HF8 := Lib.hid (HA.out.l1.fr.tr hf8)
            clear hf8
            go_wp2_with fail
            go_ret
            exact ⟨rfl, (HF8.out.mono (fun _ _ h => h.elim) : Fr (fun k => W.heap.size ≤ k) W _).below (Nat.le_refl _)⟩
end Go.Proofs.Ytkpfgoalohbfeaa
