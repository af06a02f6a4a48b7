/- SynodEnds. -/
import Derived.Test.YtkpfgoalohbfeaaSXe
import Derived.Deep.CutBlock
import Derived.Deep.DeepCutAuto
namespace Go.Proofs.Ytkpfgoalohbfeaa
open Go.RowKit

def otherB : List UInt8 := [111, 116, 104, 101, 114]
theorem byt_other (w : World) (m : Nat × Nat) : Byt (w.alloc (.cells #[.int .u8 111, .int .u8 116, .int .u8 104, .int .u8 101, .int .u8 114] 5 m)) (.slice (some ⟨w.heap.size, 0, none⟩) 5 5) otherB := by
  refine ⟨some ⟨w.heap.size, 0, none⟩, 5, rfl, (fun h => by cases h), fun _ => ⟨w.heap.size, 0, rfl, fun i v hv => ?_⟩⟩
  have hc : ∀ (j : Nat) (u : Value), (#[Value.int .u8 111, .int .u8 116, .int .u8 104, .int .u8 101, .int .u8 114] : Array Value)[j]? = some u → (w.alloc (.cells #[.int .u8 111, .int .u8 116, .int .u8 104, .int .u8 101, .int .u8 114] 5 m)).cell? ⟨w.heap.size, j, none⟩ = some u := fun j u hu => by
    unfold World.cell?
    rw [heap_alloc_new w _]
    simpa using hu
  match i, hv with
  | 0, hv | 1, hv | 2, hv | 3, hv | 4, hv =>
    simp [otherB] at hv
    subst hv
    exact hc _ _ rfl
  | n + 5, hv => simp [otherB] at hv
/-- The room of the law, what it knows of it. -/
structure EnI (W w : World) (r nb : Nat) (st : Sy) (c : Nat) (g : Gh) (G F : Nat → Prop) : Prop where
  l : Lr W w r nb st c G F
  k : Kp st g Lim
section
variable {W w w' : World} {r nb c c' : Nat} {st st' : Sy} {g g' : Gh} {G F : Nat → Prop}
theorem EnI.up (h : EnI W w r nb st c g G F) (hf : Fr (fun _ => False) w w') : EnI W w' r nb st c g G F := ⟨h.l.up hf, h.k⟩
theorem drop_lt {a : Nat} (h : st.l ≠ []) (hl : st.l.length ≤ a + 1) : (dropS st 0).l.length ≤ a := by
  unfold dropS
  have e : st.atL 0 = st.l[0]? := by unfold Sy.atL; rw [if_pos (Int.le_refl 0)]; rfl
  rw [e]
  cases hl0 : st.l with
  | nil => exact absurd hl0 h
  | cons m tl =>
    simp only [List.getElem?_cons_zero]
    show (st.l.eraseIdx 0).length ≤ a
    rw [hl0] at hl ⊢
    simpa using hl
theorem drop_bd {B : Nat} (h : Bd st B) : Bd (dropS st 0) B := by
  unfold dropS
  cases st.atL 0 with
  | none => exact h
  | some m => exact h
end

set_option maxRecDepth 100000 in
set_option maxHeartbeats 32000000 in
theorem ends_law (q : Qu) (s : Value) (v : Value) (l : List Ac) (who : Int) (bs : Value) (val : List UInt8) (W : World) (hs : Ints W s q.s) (hnil : ∀ c, s = .slice none 0 c → c = 0) (hm : q.s.length ≤ maxLen) (hv : AcL W v l (fun k => W.heap.size ≤ k))
    (hb : Byt W bs val) (hbl : val.length ≤ maxLen) (hbx : ∀ k, bs.ownBlock = some k → val ≠ [] → k < W.heap.size) :
    Calls Try.prog 6 #[q.v s, v, .int .i64 who, bs] W fun e w' => e = .returned (.bool true) ∧ Below W.heap.size W w' := by
  have kc := fun (w : World) (C : Array Value) (n c : Nat) => Lib.run_convert_bytes_const (P := Try.prog) w 31 5 C n c Try.underlying31 Try.underlying5
  have hs0 := hs
  obtain ⟨A, c, rfl, -⟩ := hs0
  obtain ⟨w1, hw1⟩ : ∃ w1, w1 = (W.alloc (.cells #[.int .i64 q.k, .int .i64 q.n, .int .i64 q.o, .int .i64 q.t, .slice A q.s.length c] 24)) := ⟨_, rfl⟩
  have hf : Fr (fun _ => False) W w1 := by rw [hw1]; exact ((Fr.refl _ W).alloc _)
  have hb1 : Blk w1 W.heap.size 24 #[.int .i64 q.k, .int .i64 q.n, .int .i64 q.o, .int .i64 q.t, .slice A q.s.length c] := by rw [hw1]; exact (Blk.new _ _ _)
  obtain ⟨bq, hbq⟩ : ∃ b, b = W.heap.size := ⟨_, rfl⟩
  rw [← hbq] at hb1
  have hroom := room_any q (.slice A q.s.length c) w1 (hs.up hf) hnil hm
  simp only [Qu.v] at hroom
  have HRoom := Lib.hid hroom
  have HW := Lib.hid (And.intro hw1 hbq)
  have HF := Lib.hid hf
  have HV := Lib.hid hv
  obtain ⟨va, vc, rfl, hll, hat0⟩ := hv
  have HAt := Lib.hid hat0
  have HBs := Lib.hid (And.intro hb hbx)
  obtain ⟨ba, bc, rfl, -, -⟩ := hb
  unfold maxLen at hll hbl
  simp only [Qu.v]
  clear hw1 hbq hf hs hm hnil hroom hat0 hbx
  go_enter Try.func6, Try.ntmps6
  go_upto_region 1 with (fail)
  rw [← HW.out.1, ← HW.out.2]
  clear HW
  have b0 := hb1.cell 0 rfl
  have b1 := hb1.cell 1 rfl
  have b2 := hb1.cell 2 rfl
  have b3 := hb1.cell 3 rfl
  have b4 := hb1.cell 4 rfl
  have bf := hb1.frozen
  go_wp2_with fail
  refine HRoom.out.mono ?_
  rintro e w2 ⟨r, nb, q', G, F, rfl, hq', hl', hL⟩
  have hL2 : Lr W w2 r nb (room0 q') 0 G F := ⟨hL.rm, fun k hk => Nat.le_trans HF.out.size (hL.lo k hk), HF.out.tr hL.fr⟩
  have hK := Kp.new hq' hl' Lim
  obtain ⟨N, hN⟩ : ∃ N, N = (room0 q').N := ⟨_, rfl⟩
  rw [← hN]
  have hN12 : N ≤ 12 := by rw [hN]; exact hL.rm.wf.n12.2.1
  have hN1 : 1 ≤ N := by rw [hN]; exact hL.rm.wf.n12.1
  have HO := Lib.hid (And.intro (EnI.mk hL2 hK) hN)
  have hlong := along_any (.slice va l.length vc) l _ w2 (HV.out.up hL2.fr (fun _ h => h.elim))
  have HLong := Lib.hid hlong
  clear b0 b1 b2 b3 b4 bf hb1 hL hL2 hK hlong HRoom hq' hl' hN
  go_wp2_with fail
  refine HLong.out.mono ?_
  rintro e w3 ⟨b, rfl, rfl, hsh⟩
  have hcs : b = true ∨ (b = false ∧ (100 : Int) < (val.length : Int)) ∨ (b = false ∧ ¬ (100 : Int) < (val.length : Int)) := by
    cases b
    · by_cases h : (100 : Int) < (val.length : Int)
      · exact .inr (.inl ⟨rfl, h⟩)
      · exact .inr (.inr ⟨rfl, h⟩)
    · exact .inl rfl
  have HSh0 := Lib.hid hsh
  clear hsh
  rcases hcs with rfl | ⟨rfl, hc⟩ | ⟨rfl, hc⟩
  case' inr.inr =>
    have hv100 : val.length ≤ 100 := by omega
    have HSh := Lib.hid (HSh0.out rfl)
    clear HLong HSh0
    go_upto_block 0 with (fail)
    go_cut [11] (fun _ wx => ∃ (st : Sy) (cc : Nat) (gh : Gh) (G F : Nat → Prop), cc ≤ 7200 ∧ N = st.N ∧ Bd st 60 ∧ EnI W wx r nb st cc gh G F)
  case inl =>
    go_wp2_with fail
    refine (known_any w2).mono ?_
    rintro e w3 ⟨rfl, hf3⟩
    have HF3 := Lib.hid (HO.out.1.l.fr.tr hf3)
    clear hf3
    go_wp2_with fail
    go_ret
    exact ⟨rfl, (HF3.out.mono (fun _ _ h => h.elim) : Fr (fun k => W.heap.size ≤ k) W _).below (Nat.le_refl _)⟩
  case inr.inl =>
    go_wp2_with fail
    refine (known_any w2).mono ?_
    rintro e w3 ⟨rfl, hf3⟩
    have HF3 := Lib.hid (HO.out.1.l.fr.tr hf3)
    clear hf3
    go_wp2_with fail
    go_ret
    exact ⟨rfl, (HF3.out.mono (fun _ _ h => h.elim) : Fr (fun k => W.heap.size ≤ k) W _).below (Nat.le_refl _)⟩
  case first =>
    go_wp2_with fail
    go_loopg [11] l.length (fun g x11 wr => ∃ (i : Nat) (st : Sy) (cc : Nat) (gh : Gh) (G F : Nat → Prop), i + g = l.length ∧ i ≤ 60 ∧ x11 = .int .i64 i ∧ cc ≤ 120 * i ∧ N = st.N ∧ Bd st i ∧ EnI W wr r nb st cc gh G F)
    case atStart => exact ⟨0, _, 0, _, G, F, by omega, by omega, rfl, by omega, HO.out.2, fun j _ => Nat.le_refl _, HO.out.1⟩
    case round =>
      clear HO
      obtain ⟨i, st, cc, gh, G1, F1, hi, hi60, rfl, hcc, hN, hbd, hO⟩ := hrel
      have HI := Lib.hid (And.intro hi (And.intro hcc (And.intro hN hbd)))
      have hi' : i ≤ l.length := by omega
      clear hi hcc hN hbd
      by_cases hlt : i < l.length ∧ i < 60
      · obtain ⟨hlt, hlt2⟩ := hlt
        have hlt3 : (i : Int) < 60 := by omega
        obtain ⟨x, hx⟩ : ∃ x, l[i]? = some x := ⟨_, List.getElem?_eq_getElem hlt⟩
        obtain ⟨b, off, vs, rfl, hat⟩ := HAt.out i x hx
        have hxl := HSh.out i x hlt (by omega) hx
        have hat' := hat.up hO.l.fr (fun _ h => h.elim)
        have hplay := play_any r nb st cc G1 F1 x vs wr hO.l.rm hat'.own (fun k hk hne hg => by
          have h1 := hat.ox k hk hne; have h2 := hO.l.lo k (hO.l.rm.GF k hg); omega) hxl (by have := HI.out.2.1; unfold maxLen; omega)
        rw [← HI.out.2.2.1] at hplay
        obtain ⟨sa, sc, rfl, -, -⟩ := hat'.own
        have q0 := hat'.c0
        have q1 := hat'.c1
        have q2 := hat'.c2
        have HPl := Lib.hid hplay
        have HO := Lib.hid hO
        clear hat hat' hx hplay hO
        go_wp2_with fail
        refine HPl.out.mono ?_
        rintro e w4 ⟨rfl, hT⟩
        obtain ⟨G4, F4, hL4, -, -⟩ := HO.out.l.next hT
        obtain ⟨gh4, hK4, -⟩ := HO.out.k.act (fun _ h => h) x (fun _ h => h)
        have HO4 := Lib.hid (EnI.mk hL4 hK4)
        clear hT hL4 hK4 q0 q1 q2 HPl
        go_wp2_with fail
        go_roundg (l.length - (i + 1))
        case measure => have := HI.out.1; omega
        case rel => exact ⟨i + 1, actS st x, cc + 120, gh4, G4, F4, by have := HI.out.1; omega, by omega, by go_num, by have := HI.out.2.1; omega, HI.out.2.2.1.trans (act_go st x).1.N.symm, HI.out.2.2.2.act HO.out.k (fun _ h => h) x, HO4.out⟩
      · have hcs : (i < l.length ∧ ¬ (i : Int) < 60) ∨ ¬ (i < l.length) := by omega
        have HO := Lib.hid hO
        clear hO
        rcases hcs with ⟨ha, hb⟩ | ha
        all_goals
          go_wp2_with fail
          go_meet
          exact ⟨st, cc, gh, G1, F1, by have := HI.out.2.1; omega, HI.out.2.2.1, fun j hj => Nat.le_trans (HI.out.2.2.2 j hj) hi60, HO.out⟩
  case rest =>
    clear HO
    obtain ⟨st, cc, gh, G1, F1, hcc, hN, hbd, hO⟩ := hcut
    have HI := Lib.hid (And.intro hcc (And.intro hN hbd))
    have HO := Lib.hid hO
    clear hcc hN hbd hO
    go_upto_block 2 with (fail)
    go_cut [12] (fun _ wx => ∃ (st : Sy) (gh : Gh) (G F : Nat → Prop), N = st.N ∧ Bd st 60 ∧ st.l = [] ∧ EnI W wx r nb st cc gh G F)
    case first =>
      go_wp2_with fail
      go_loopg [12] 200 (fun g x12 wr => ∃ (i : Nat) (st : Sy) (G F : Nat → Prop), i + g = 200 ∧ x12 = .int .i64 i ∧ N = st.N ∧ Bd st 60 ∧ st.l.length ≤ g ∧ EnI W wr r nb st cc gh G F)
      case atStart => exact ⟨0, st, G1, F1, by omega, rfl, HI.out.2.1, HI.out.2.2, HO.out.k.wf.len, HO.out⟩
      case round =>
        clear HO
        obtain ⟨i, st, G2, F2, hi, rfl, hN, hbd, hlen, hO⟩ := hrel
        have HJ := Lib.hid (And.intro hi (And.intro hN (And.intro hbd hlen)))
        have hln := len_any r nb st cc G2 F2 wr hO.l.rm
        have HLn := Lib.hid hln
        have HO := Lib.hid hO
        have hi' : i ≤ 200 := by omega
        have hcs : (i < 200 ∧ 0 < st.l.length) ∨ (i < 200 ∧ st.l.length = 0) ∨ (i = 200 ∧ st.l.length = 0) := by omega
        clear hi hN hbd hlen hln hO
        rcases hcs with ⟨h1, h2⟩ | ⟨h1, h2⟩ | ⟨h1, h2⟩
        · have h1' : (i : Int) < 200 := by omega
          have h2' : (0 : Int) < (st.l.length : Int) := by omega
          have hdr := fun w (h : Rm w r nb st cc G2 F2) => drop_any r nb st cc G2 F2 0 w h
          have HDr := Lib.hid hdr
          clear hdr h1
          go_wp2_with fail
          refine HLn.out.mono ?_
          rintro e w4 ⟨rfl, rfl⟩
          go_wp2_with fail
          refine (HDr.out wr HO.out.l.rm).mono ?_
          rintro e w4 ⟨rfl, hT⟩
          obtain ⟨G4, F4, hL4, -, -⟩ := HO.out.l.next hT
          have HO4 := Lib.hid (EnI.mk hL4 (HO.out.k.drop 0))
          clear hT hL4
          go_wp2_with fail
          go_roundg (200 - (i + 1))
          case measure => have := HJ.out.1; omega
          case rel => exact ⟨i + 1, dropS st 0, G4, F4, by have := HJ.out.1; omega, by go_num, HJ.out.2.1.trans (drop_go st 0).1.N.symm, drop_bd HJ.out.2.2.1, drop_lt (fun h => by rw [h] at h2; simp at h2) (by have := HJ.out; omega), HO4.out⟩
        · have h1' : (i : Int) < 200 := by omega
          have HE := Lib.hid (List.eq_nil_of_length_eq_zero h2)
          rw [h2] at HLn
          clear h1 h2
          go_wp2_with fail
          refine HLn.out.mono ?_
          rintro e w4 ⟨rfl, rfl⟩
          go_wp2_with fail
          go_meet
          exact ⟨st, gh, G2, F2, HJ.out.2.1, HJ.out.2.2.1, HE.out, HO.out⟩
        · subst h1
          have HE := Lib.hid (List.eq_nil_of_length_eq_zero h2)
          clear h2
          go_wp2_with fail
          go_meet
          exact ⟨st, gh, G2, F2, HJ.out.2.1, HJ.out.2.2.1, HE.out, HO.out⟩
    case rest =>
      have hcc : cc ≤ 7200 := HI.out.1
      clear HO HI
      obtain ⟨st, gh, G1, F1, hN, hbd, hnl, hO⟩ := hcut
      obtain ⟨o, ho⟩ : ∃ o, o = atI who N := ⟨_, rfl⟩
      have hoN : o < N := by rw [ho]; exact atI_lt (by omega)
      have hP := Ph.first hO.k hbd hnl (show o < st.N by rw [← hN]; exact hoN)
      have hat := at_any who N (by omega) wc
      rw [← ho] at hat
      have HAt1 := Lib.hid hat
      have HP := Lib.hid (And.intro hP (And.intro hN hO.l))
      clear hN hbd hnl hO ho hP hat
      go_wp2_with fail
      refine HAt1.out.mono ?_
      rintro e w4 ⟨rfl, rfl⟩
      go_upto_block 4 with (fail)
      go_cut [14] (fun _ wx => ∃ (k : Nat) (st : Sy) (gh : Gh) (G F : Nat → Prop), 1 ≤ k ∧ k ≤ 80 ∧ N = st.N ∧ Ph st gh o k 60 ∧ (st.nd o).kn = true ∧ Lr W wx r nb st (cc + 400 * k) G F)
      case first =>
        go_wp2_with fail
        go_loopg [14] 80 (fun g x14 wr => ∃ (k : Nat) (st : Sy) (gh : Gh) (G F : Nat → Prop), k + g = 80 ∧ x14 = .int .i64 k ∧ N = st.N ∧ Ph st gh o k 60 ∧ Lr W wr r nb st (cc + 400 * k) G F)
        case atStart => exact ⟨0, st, gh, G1, F1, by omega, rfl, HP.out.2.1, HP.out.1, HP.out.2.2⟩
        case round =>
          clear HP
          obtain ⟨k, st, gh, G1, F1, hk, rfl, hN, hP, hL⟩ := hrel
          have HK := Lib.hid (And.intro hk (And.intro hN hP))
          have hk' : k ≤ 80 := by omega
          have hlr := lrn_any r nb st (cc + 400 * k) G1 F1 (o : Int) wr hL.rm
          have hin : inSy st (o : Int) = true := by
            unfold inSy
            rw [decide_eq_true_eq]
            have h1 := hL.rm.wf.n12.2.2
            omega
          have hln : lrnB st (o : Int) = if (st.nd o).kn = true then some (st.nd o).ln else none := by
            unfold lrnB
            rw [Int.toNat_natCast]
            simp only [hin, true_and]
          obtain ⟨L, hLe⟩ : ∃ L, L = lrnB st (o : Int) := ⟨_, rfl⟩
          rw [← hLe] at hlr hln
          have hkn : L.isSome = (st.nd o).kn := by rw [hln]; cases (st.nd o).kn <;> rfl
          have HKn := Lib.hid hkn
          have HLr := Lib.hid hlr
          have HL := Lib.hid hL
          clear hk hN hP hlr hin hln hLe hkn hL
          by_cases hk80 : k < 80
          · have hk80' : (k : Int) < 80 := by omega
            go_wp2_with fail
            refine HLr.out.mono ?_
            rintro e w5 ⟨za, zc, rfl, ho5, hf5⟩
            have hL5 := HL.out.up hf5
            have hst := start_any r nb st (cc + 400 * k) G1 F1 (o : Int) (.slice ba val.length bc) val w5 hL5.rm (HBs.out.1.fr hL5.fr (fun _ _ h => h)) (fun j hj hne hg => by
              have h1 := HBs.out.2 j hj hne; have h2 := hL5.lo j (hL5.rm.GF j hg); omega) (by omega)
            have HSt := Lib.hid hst
            have HL5 := Lib.hid hL5
            clear ho5 hf5 hL5 hst HLr HL
            have hcs : (L = none) ∨ ((∃ u, L = some u) ∧ k = 0) ∨ ((∃ u, L = some u) ∧ 0 < k) := by
              cases L with
              | none => exact .inl rfl
              | some u => exact .inr ((Nat.eq_zero_or_pos k).elim (fun h => .inl ⟨⟨u, rfl⟩, h⟩) (fun h => .inr ⟨⟨u, rfl⟩, h⟩))
            rcases hcs with rfl | ⟨⟨u, rfl⟩, hk0⟩ | ⟨⟨u, rfl⟩, hk0⟩
            case' inl => simp only [Option.isSome_none, Option.getD_none, List.length_nil]
            case' inr.inl =>
              simp only [Option.isSome_some, Option.getD_some]
              have hk0' : ¬ (0 : Int) < (k : Int) := by omega
              clear hk0
            case inr.inr =>
              simp only [Option.isSome_some, Option.getD_some] at HKn ⊢
              have hk0' : (0 : Int) < (k : Int) := by omega
              go_wp2_with fail
              go_meet
              exact ⟨k, st, gh, G1, F1, hk0, hk', HK.out.2.1, HK.out.2.2, HKn.out.symm, HL5.out⟩
            all_goals
              go_wp2_with fail
              refine HSt.out.mono ?_
              rintro e w6 ⟨rfl, hT⟩
              obtain ⟨G6, F6, hL6, -, -⟩ := HL5.out.next hT
              obtain ⟨gh', hP', -⟩ := HK.out.2.2.next hv100 (by omega)
              have hNr : N = (rndS st o val).N := by
                have h1 := (tk0_go (startS st (o : Int) val) 200).1.N
                have h2 := (start_go st (o : Int) val).1.N
                exact HK.out.2.1.trans (h1.trans h2).symm
              obtain ⟨S, hS⟩ : ∃ S, S = startS st (o : Int) val := ⟨_, rfl⟩
              rw [← hS] at hL6
              have hfin : ∀ (j : Nat) (wx : World) (G F : Nat → Prop), j ≤ 200 → (j = 200 ∨ (tk0 S j).l = []) → Lr W wx r nb (tk0 S j) (cc + 400 * k + 2 * j) G F → Lr W wx r nb (rndS st o val) (cc + 400 * (k + 1)) G F := fun j wx G F hj hc h => by
                have he : tk0 S j = rndS st o val := by
                  unfold rndS
                  rw [← hS]
                  rcases hc with rfl | hc
                  · rfl
                  · have := tk0_stop hc (200 - j)
                    rw [show j + (200 - j) = 200 by omega] at this
                    exact this.symm
                rw [he] at h
                exact ⟨h.rm.mono (by omega), h.lo, h.fr⟩
              have HFin := Lib.hid hfin
              have HPn := Lib.hid (And.intro hP' hNr)
              have HL6 := Lib.hid hL6
              clear hT hL6 hP' hNr hS hfin HSt HL5
              go_wp2_with fail
              go_loopg [17] 200 (fun g x17 wr => ∃ (j : Nat) (G F : Nat → Prop), j + g = 200 ∧ x17 = .int .i64 j ∧ Lr W wr r nb (tk0 S j) (cc + 400 * k + 2 * j) G F)
              case atStart => exact ⟨0, G6, F6, by omega, rfl, HL6.out⟩
              case round =>
                clear HL6
                obtain ⟨j, G2, F2, hj, rfl, hL⟩ := hrel
                have HJ := Lib.hid hj
                have HLn := Lib.hid (len_any r nb _ _ G2 F2 wr hL.rm)
                have HL := Lib.hid hL
                have hcs : (j < 200 ∧ 0 < (tk0 S j).l.length) ∨ (j < 200 ∧ (tk0 S j).l.length = 0) ∨ j = 200 := by omega
                have hj' : j ≤ 200 := by omega
                clear hj hL
                rcases hcs with ⟨h1, h2⟩ | ⟨h1, h2⟩ | h1
                · have h1' : (j : Int) < 200 := by omega
                  have h2' : (0 : Int) < ((tk0 S j).l.length : Int) := by omega
                  clear h1 h2
                  go_wp2_with fail
                  refine HLn.out.mono ?_
                  rintro e w4 ⟨rfl, rfl⟩
                  go_wp2_with fail
                  refine (take_any r nb (tk0 S j) (cc + 400 * k + 2 * j) G2 F2 0 wr HL.out.rm (by unfold maxLen; omega)).mono ?_
                  rintro e w8 ⟨rfl, hT⟩
                  obtain ⟨G8, F8, L8, -, -⟩ := HL.out.next hT
                  have HL8 := Lib.hid L8
                  clear hT L8
                  go_wp2_with fail
                  go_roundg (200 - (j + 1))
                  case measure => have := HJ.out; omega
                  case rel => exact ⟨j + 1, G8, F8, by have := HJ.out; omega, by go_num, HL8.out⟩
                · have h1' : (j : Int) < 200 := by omega
                  have HE := Lib.hid (List.eq_nil_of_length_eq_zero h2)
                  rw [h2] at HLn
                  clear h1 h2
                  go_wp2_with fail
                  refine HLn.out.mono ?_
                  rintro e w4 ⟨rfl, rfl⟩
                  go_wp2_with fail
                  go_roundg (80 - (k + 1))
                  case measure => have := HK.out.1; omega
                  case rel => exact ⟨k + 1, rndS st o val, gh', G2, F2, by have := HK.out.1; omega, by go_num, HPn.out.2, HPn.out.1, HFin.out _ _ _ _ hj' (.inr HE.out) HL.out⟩
                · subst h1
                  go_wp2_with fail
                  go_roundg (80 - (k + 1))
                  case measure => have := HK.out.1; omega
                  case rel => exact ⟨k + 1, rndS st o val, gh', G2, F2, by have := HK.out.1; omega, by go_num, HPn.out.2, HPn.out.1, HFin.out _ _ _ _ hj' (.inl rfl) HL.out⟩
          · obtain rfl : k = 80 := by omega
            go_wp2_with fail
            go_meet
            exact ⟨80, st, gh, G1, F1, by omega, by omega, HK.out.2.1, HK.out.2.2, HK.out.2.2.kn (by omega), HL.out⟩
      case rest =>
        clear HP
        obtain ⟨k, st, gh, G1, F1, hk1, hk80, hN, hP, hkn, hL⟩ := hcut
        have hlr := lrn_any r nb st (cc + 400 * k) G1 F1 (o : Int) wc hL.rm
        have hin : inSy st (o : Int) = true := by
          unfold inSy
          rw [decide_eq_true_eq]
          have h1 := hL.rm.wf.n12.2.2
          omega
        have hln : lrnB st (o : Int) = some (st.nd o).ln := by
          unfold lrnB
          rw [Int.toNat_natCast, if_pos ⟨hin, hkn⟩]
        have hch := hP.kp.lrn hln
        rw [hln] at hlr
        obtain ⟨lv, hlv⟩ : ∃ lv, lv = (st.nd o).ln := ⟨_, rfl⟩
        rw [← hlv] at hlr hch
        obtain ⟨o2, ho2⟩ : ∃ o2, o2 = atI ((o : Int) + 1) N := ⟨_, rfl⟩
        have ho2N : o2 < N := by rw [ho2]; exact atI_lt (by omega)
        have hP2 := hP.other hk1 (show o2 < st.N by rw [← hN]; exact ho2N)
        have hat := at_any ((o : Int) + 1) N (by omega)
        rw [← ho2] at hat
        have HLr := Lib.hid hlr
        have HAt2 := Lib.hid hat
        have HP2 := Lib.hid (And.intro hP2 (And.intro hN (And.intro hch hL)))
        clear hN hP hkn hL hlr hin hln hch hlv ho2 hP2 hat
        go_wp2_with fail
        refine HLr.out.mono ?_
        rintro e w5 ⟨za, zc, rfl, ho5, hf5⟩
        simp only [Option.isSome_some, Option.getD_some] at ho5 ⊢
        have hL5 := HP2.out.2.2.2.up hf5
        have hsv : Sav w5 F1 (.slice za lv.length zc) lv := Sav.new HP2.out.2.2.2 ho5 (Byt.of_own (own_base ho5))
        have HL5 := Lib.hid (And.intro hL5 hsv)
        clear ho5 hf5 hL5 hsv HLr
        go_wp2_with fail
        refine (HAt2.out w5).mono ?_
        rintro e w6 ⟨rfl, rfl⟩
        go_wp2_with fail
        go_loopg [21] 80 (fun g x21 wr => ∃ (k2 : Nat) (st : Sy) (gh : Gh) (G F : Nat → Prop), k2 + g = 80 ∧ x21 = .int .i64 k2 ∧ N = st.N ∧ Ph st gh o2 k2 (60 + k) ∧ Chosen st.q gh lv ∧ Sav wr F (.slice za lv.length zc) lv ∧ Lr W wr r nb st (cc + 400 * k + 400 * k2) G F)
        case atStart => exact ⟨0, st, gh, G1, F1, by omega, rfl, HP2.out.2.1, HP2.out.1, HP2.out.2.2.1, HL5.out.2, HL5.out.1⟩
        case round =>
          clear HP2 HL5
          obtain ⟨k2, st, gh, G1, F1, hk2, rfl, hN, hP, hch, hsv, hL⟩ := hrel
          have HK := Lib.hid (And.intro hk2 (And.intro hN (And.intro hP (And.intro hch hsv))))
          have hk2' : k2 ≤ 80 := by omega
          have HL := Lib.hid hL
          clear hk2 hN hP hch hsv hL
          by_cases hk80 : k2 < 80
          · have hk80' : (k2 : Int) < 80 := by omega
            obtain ⟨w5, hw5⟩ : ∃ w5, w5 = wr.alloc (.cells #[.int .u8 111, .int .u8 116, .int .u8 104, .int .u8 101, .int .u8 114] 5 (5, 6)) := ⟨_, rfl⟩
            have hf5 : Fr (fun _ => False) wr w5 := by rw [hw5]; exact (Fr.refl _ wr).alloc _
            have hb5 : Byt w5 (.slice (some ⟨wr.heap.size, 0, none⟩) 5 5) otherB := by rw [hw5]; exact byt_other wr _
            have hL5 := HL.out.up hf5
            have hsv5 := HK.out.2.2.2.2.up hf5
            have hst := start_any r nb st (cc + 400 * k + 400 * k2) G1 F1 (o2 : Int) (.slice (some ⟨wr.heap.size, 0, none⟩) 5 5) otherB w5 hL5.rm hb5 (fun j hj _ hg => by
              simp only [Value.ownBlock] at hj
              injection hj with hj
              exact HL.out.notF (by omega) (HL.out.rm.GF j hg)) (by decide)
            have HW5 := Lib.hid hw5
            have HSt := Lib.hid hst
            have HL5 := Lib.hid (And.intro hL5 hsv5)
            clear hw5 hf5 hb5 hL5 hsv5 hst HL
            go_wp2_with fail
            rw [← HW5.out]
            clear HW5
            refine HSt.out.mono ?_
            rintro e w6 ⟨rfl, hT⟩
            obtain ⟨G6, F6, hL6, hx6, hy6⟩ := HL5.out.1.next hT
            have hsv6 := HL5.out.2.next hx6 hy6 HL5.out.1.rm.GF
            obtain ⟨gh', hP', hle⟩ := HK.out.2.2.1.next (v := otherB) (by decide) (by omega)
            have hNr : N = (rndS st o2 otherB).N := by
              have h1 := (tk0_go (startS st (o2 : Int) otherB) 200).1.N
              have h2 := (start_go st (o2 : Int) otherB).1.N
              exact HK.out.2.1.trans (h1.trans h2).symm
            obtain ⟨S, hS⟩ : ∃ S, S = startS st (o2 : Int) otherB := ⟨_, rfl⟩
            rw [← hS] at hL6
            have hfin : ∀ (j : Nat) (wx : World) (G F : Nat → Prop), j ≤ 200 → (j = 200 ∨ (tk0 S j).l = []) → Lr W wx r nb (tk0 S j) (cc + 400 * k + 400 * k2 + 2 * j) G F → Lr W wx r nb (rndS st o2 otherB) (cc + 400 * k + 400 * (k2 + 1)) G F := fun j wx G F hj hc h => by
              have he : tk0 S j = rndS st o2 otherB := by
                unfold rndS
                rw [← hS]
                rcases hc with rfl | hc
                · rfl
                · have := tk0_stop hc (200 - j)
                  rw [show j + (200 - j) = 200 by omega] at this
                  exact this.symm
              rw [he] at h
              exact ⟨h.rm.mono (by omega), h.lo, h.fr⟩
            have HFin := Lib.hid hfin
            have hch' : Chosen (rndS st o2 otherB).q gh' lv := by
              have h1 := (tk0_go (startS st (o2 : Int) otherB) 200).1.q
              have h2 := (start_go st (o2 : Int) otherB).1.q
              have h3 : (rndS st o2 otherB).q = st.q := h1.trans h2
              rw [h3]
              exact HK.out.2.2.2.1.up hle
            have HPn := Lib.hid (And.intro hP' (And.intro hNr hch'))
            have HL6 := Lib.hid (And.intro hsv6 hL6)
            clear hch' hT hL6 hsv6 hx6 hy6 hP' hle hNr hS hfin HSt HL5
            go_wp2_with fail
            go_loopg [22] 200 (fun g x22 wr => ∃ (j : Nat) (G F : Nat → Prop), j + g = 200 ∧ x22 = .int .i64 j ∧ Sav wr F (.slice za lv.length zc) lv ∧ Lr W wr r nb (tk0 S j) (cc + 400 * k + 400 * k2 + 2 * j) G F)
            case atStart => exact ⟨0, G6, F6, by omega, rfl, HL6.out.1, HL6.out.2⟩
            case round =>
              clear HL6
              obtain ⟨j, G2, F2, hj, rfl, hsv, hL⟩ := hrel
              have HSv := Lib.hid hsv
              have HJ := Lib.hid hj
              have HLn := Lib.hid (len_any r nb _ _ G2 F2 wr hL.rm)
              have HL := Lib.hid hL
              have hcs : (j < 200 ∧ 0 < (tk0 S j).l.length) ∨ (j < 200 ∧ (tk0 S j).l.length = 0) ∨ j = 200 := by omega
              have hj' : j ≤ 200 := by omega
              clear hj hL hsv
              rcases hcs with ⟨h1, h2⟩ | ⟨h1, h2⟩ | h1
              · have h1' : (j : Int) < 200 := by omega
                have h2' : (0 : Int) < ((tk0 S j).l.length : Int) := by omega
                clear h1 h2
                go_wp2_with fail
                refine HLn.out.mono ?_
                rintro e w4 ⟨rfl, rfl⟩
                go_wp2_with fail
                refine (take_any r nb (tk0 S j) (cc + 400 * k + 400 * k2 + 2 * j) G2 F2 0 wr HL.out.rm (by unfold maxLen; omega)).mono ?_
                rintro e w8 ⟨rfl, hT⟩
                obtain ⟨G8, F8, L8, x8, y8⟩ := HL.out.next hT
                have HL8 := Lib.hid (And.intro (HSv.out.next x8 y8 HL.out.rm.GF) L8)
                clear hT L8 x8 y8
                go_wp2_with fail
                go_roundg (200 - (j + 1))
                case measure => have := HJ.out; omega
                case rel => exact ⟨j + 1, G8, F8, by have := HJ.out; omega, by go_num, HL8.out.1, HL8.out.2⟩
              · have h1' : (j : Int) < 200 := by omega
                have HE := Lib.hid (List.eq_nil_of_length_eq_zero h2)
                rw [h2] at HLn
                clear h1 h2
                go_wp2_with fail
                refine HLn.out.mono ?_
                rintro e w4 ⟨rfl, rfl⟩
                go_wp2_with fail
                go_roundg (80 - (k2 + 1))
                case measure => have := HK.out.1; omega
                case rel => exact ⟨k2 + 1, rndS st o2 otherB, gh', G2, F2, by have := HK.out.1; omega, by go_num, HPn.out.2.1, HPn.out.1, HPn.out.2.2, HSv.out, HFin.out _ _ _ _ hj' (.inr HE.out) HL.out⟩
              · subst h1
                go_wp2_with fail
                go_roundg (80 - (k2 + 1))
                case measure => have := HK.out.1; omega
                case rel => exact ⟨k2 + 1, rndS st o2 otherB, gh', G2, F2, by have := HK.out.1; omega, by go_num, HPn.out.2.1, HPn.out.1, HPn.out.2.2, HSv.out, HFin.out _ _ _ _ hj' (.inl rfl) HL.out⟩
          · obtain rfl : k2 = 80 := by omega
            have hlr := lrn_any r nb st (cc + 400 * k + 400 * 80) G1 F1 (o2 : Int) wr HL.out.rm
            have hin : inSy st (o2 : Int) = true := by
              unfold inSy
              rw [decide_eq_true_eq]
              have h1 := HL.out.rm.wf.n12.2.2
              have h2 := HK.out.2.1
              omega
            have hln : lrnB st (o2 : Int) = some (st.nd o2).ln := by
              unfold lrnB
              rw [Int.toNat_natCast, if_pos ⟨hin, HK.out.2.2.1.kn (by omega)⟩]
            have hch := HK.out.2.2.1.kp.lrn hln
            have heq := HK.out.2.2.1.kp.inv.one HK.out.2.2.2.1 hch
            rw [hln, ← heq] at hlr
            have HLr := Lib.hid hlr
            clear hlr hin hln hch heq
            go_wp2_with fail
            refine HLr.out.mono ?_
            rintro e w5 ⟨ya, yc, rfl, ho5, hf5⟩
            simp only [Option.isSome_some, Option.getD_some] at ho5 ⊢
            have hsm := same_any (.slice za lv.length zc) (.slice ya lv.length yc) lv lv w5 (HK.out.2.2.2.2.up hf5).1 (Byt.of_own (own_base ho5))
            rw [decide_eq_true rfl] at hsm
            have HSm := Lib.hid hsm
            have HL5 := Lib.hid (HL.out.up hf5)
            clear ho5 hf5 hsm HLr HL
            go_wp2_with fail
            refine HSm.out.mono ?_
            rintro e w6 ⟨rfl, rfl⟩
            go_wp2_with fail
            refine (known_any w5).mono ?_
            rintro e w8 ⟨rfl, hf8⟩
            have HF8 := Lib.hid (HL5.out.fr.tr hf8)
            clear hf8
            go_wp2_with fail
            go_ret
            exact ⟨rfl, (HF8.out.mono (fun _ _ h => h.elim) : Fr (fun k => W.heap.size ≤ k) W _).below (Nat.le_refl _)⟩
end Go.Proofs.Ytkpfgoalohbfeaa
