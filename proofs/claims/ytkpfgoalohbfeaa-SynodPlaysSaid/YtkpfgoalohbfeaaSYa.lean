/- SynodOne. -/
import Derived.Test.YtkpfgoalohbfeaaSX
import Derived.Test.YtkpfgoalohbfeaaST
namespace Go.Proofs.Ytkpfgoalohbfeaa
open Go.RowKit

/-- Values that go into a room. -/
def Lim (v : List UInt8) : Prop := v.length ≤ 100
structure OneI (W w : World) (r nb : Nat) (st : Sy) (c : Nat) (g : Gh) (G F : Nat → Prop) (won : Bool) (s : Value) (first : List UInt8) : Prop where
  l : Lr W w r nb st c G F
  k : Kp st g Lim
  sv : Sav w F s first
  ch : won = true → Chosen st.q g first
section
variable {W w w' : World} {r nb c c' : Nat} {st st' : Sy} {g g' : Gh} {G F G' F' X : Nat → Prop} {won : Bool} {s : Value} {first : List UInt8}
theorem OneI.up (h : OneI W w r nb st c g G F won s first) (hf : Fr (fun _ => False) w w') : OneI W w' r nb st c g G F won s first := ⟨h.l.up hf, h.k, h.sv.up hf, h.ch⟩
theorem OneI.next (h : OneI W w r nb st c g G F won s first) {x : Ac} (hT : RmTo w r nb (actS st x) c' G F w') (hx : x.k = 0 → x.v.length ≤ 100 → Lim x.v) : ∃ g' G' F', OneI W w' r nb (actS st x) c' g' G' F' won s first := by
  obtain ⟨G', F', h1, h2, h3⟩ := h.l.next hT
  obtain ⟨g', k1, k2⟩ := h.k.act (fun _ h => h) x hx
  refine ⟨g', G', F', h1, k1, h.sv.next h2 h3 h.l.rm.GF, fun hw => ?_⟩
  rw [(act_go st x).1.q]
  exact (h.ch hw).up k2
end

set_option maxRecDepth 100000 in
set_option maxHeartbeats 8000000 in
theorem one_law (q : Qu) (s : Value) (v : Value) (l : List Ac) (W : World) (hs : Ints W s q.s) (hnil : ∀ c, s = .slice none 0 c → c = 0) (hm : q.s.length ≤ maxLen) (hv : AcL W v l (fun k => W.heap.size ≤ k)) :
    Calls Try.prog 3 #[q.v s, v] W fun e w' => e = .returned (.bool true) ∧ Below W.heap.size W w' := by
  have hs0 := hs
  obtain ⟨A, c, rfl, -⟩ := hs0
  obtain ⟨w1, hw1⟩ : ∃ w1, w1 = (W.alloc (.cells #[.int .i64 q.k, .int .i64 q.n, .int .i64 q.o, .int .i64 q.t, .slice A q.s.length c] 24)) := ⟨_, rfl⟩
  have hf : Fr (fun _ => False) W w1 := by rw [hw1]; exact ((Fr.refl _ W).alloc _)
  have hb1 : Blk w1 W.heap.size 24 #[.int .i64 q.k, .int .i64 q.n, .int .i64 q.o, .int .i64 q.t, .slice A q.s.length c] := by rw [hw1]; exact (Blk.new _ _ _)
  obtain ⟨bq, hbq⟩ : ∃ b, b = W.heap.size := ⟨_, rfl⟩
  rw [← hbq] at hb1
  have hroom := room_any q (.slice A q.s.length c) w1 (hs.up hf) hnil hm
  simp only [Qu.v] at hroom
  have HRoom := Lib.hid hroom
  have HW := Lib.hid (And.intro hw1 hbq)
  have HF := Lib.hid hf
  have HV := Lib.hid hv
  obtain ⟨va, vc, rfl, hll, hat0⟩ := hv
  have HAt := Lib.hid hat0
  unfold maxLen at hll
  simp only [Qu.v]
  clear hw1 hbq hf hs hm hnil hroom hat0
  go_enter Try.func3, Try.ntmps3
  go_upto_region 1 with (fail)
  rw [← HW.out.1, ← HW.out.2]
  clear HW
  have b0 := hb1.cell 0 rfl
  have b1 := hb1.cell 1 rfl
  have b2 := hb1.cell 2 rfl
  have b3 := hb1.cell 3 rfl
  have b4 := hb1.cell 4 rfl
  have bf := hb1.frozen
  go_wp2_with fail
  refine HRoom.out.mono ?_
  rintro e w2 ⟨r, nb, q', G, F, rfl, hq', hl', hL⟩
  have hL2 : Lr W w2 r nb (room0 q') 0 G F := ⟨hL.rm, fun k hk => Nat.le_trans HF.out.size (hL.lo k hk), HF.out.tr hL.fr⟩
  have hK := Kp.new hq' hl' Lim
  have hO : OneI W w2 r nb (room0 q') 0 gh0 G F false (.slice none 0 0) [] := ⟨hL2, hK, ⟨Byt.of_own (World.ownsRow_nil w2 0 5 1), fun _ _ h => absurd rfl h⟩, fun h => by cases h⟩
  obtain ⟨N, hN⟩ : ∃ N, N = (room0 q').N := ⟨_, rfl⟩
  rw [← hN]
  have hN12 : N ≤ 12 := by rw [hN]; exact hL.rm.wf.n12.2.1
  have HO := Lib.hid (And.intro hO hN)
  have hlong := along_any (.slice va l.length vc) l _ w2 (HV.out.up hL2.fr (fun _ h => h.elim))
  have HLong := Lib.hid hlong
  clear b0 b1 b2 b3 b4 bf hb1 hL hL2 hK hO hlong HRoom hq' hl' hN
  go_wp2_with fail
  refine HLong.out.mono ?_
  rintro e w3 ⟨b, rfl, rfl, hsh⟩
  cases b with
  | true =>
    go_wp2_with fail
    refine (known_any w2).mono ?_
    rintro e w3 ⟨rfl, hf3⟩
    have HF3 := Lib.hid (HO.out.1.l.fr.tr hf3)
    clear hf3
    go_wp2_with fail
    go_ret
    exact ⟨rfl, (HF3.out.mono (fun _ _ h => h.elim) : Fr (fun k => W.heap.size ≤ k) W _).below (Nat.le_refl _)⟩
  | false =>
    have HSh := Lib.hid (hsh rfl)
    clear hsh HLong
    go_wp2_with fail
    go_loopg [7, 8, 9] l.length (fun g x7 x8 x9 wr => ∃ (i : Nat) (won : Bool) (fa : Option Addr) (fc : Nat) (first : List UInt8) (st : Sy) (cc : Nat) (gh : Gh) (G F : Nat → Prop), i + g = l.length ∧ i ≤ 200 ∧ x9 = .int .i64 i ∧ x7 = .bool won ∧ x8 = .slice fa first.length fc ∧ cc ≤ 120 * i ∧ N = st.N ∧ OneI W wr r nb st cc gh G F won (.slice fa first.length fc) first)
    case atStart => exact ⟨0, false, none, 0, [], _, 0, _, G, F, by omega, by omega, rfl, rfl, rfl, by omega, HO.out.2, HO.out.1⟩
    case round =>
      clear HO
      obtain ⟨i, won, fa, fc, first, st, cc, gh, G1, F1, hi, hi200, rfl, rfl, rfl, hcc, hN, hO⟩ := hrel
      have HI := Lib.hid (And.intro hi (And.intro hcc hN))
      have hi' : i ≤ l.length := by omega
      clear hi hcc hN
      by_cases hlt : i < l.length ∧ i < 200
      · obtain ⟨hlt, hlt2⟩ := hlt
        have hlt3 : (i : Int) < 200 := by omega
        obtain ⟨x, hx⟩ : ∃ x, l[i]? = some x := ⟨_, List.getElem?_eq_getElem hlt⟩
        obtain ⟨b, off, vs, rfl, hat⟩ := HAt.out i x hx
        have hxl := HSh.out i x hlt hlt2 hx
        have hat' := hat.up hO.l.fr (fun _ h => h.elim)
        have hplay := play_any r nb st cc G1 F1 x vs wr hO.l.rm hat'.own (fun k hk hne hg => by
          have h1 := hat.ox k hk hne; have h2 := hO.l.lo k (hO.l.rm.GF k hg); omega) hxl (by have := HI.out.2.1; unfold maxLen; omega)
        rw [← HI.out.2.2] at hplay
        obtain ⟨sa, sc, rfl, -, -⟩ := hat'.own
        have q0 := hat'.c0
        have q1 := hat'.c1
        have q2 := hat'.c2
        have HPl := Lib.hid hplay
        have HO := Lib.hid hO
        clear hat hat' hx hplay hO
        go_wp2_with fail
        refine HPl.out.mono ?_
        rintro e w4 ⟨rfl, hT⟩
        obtain ⟨gh4, G4, F4, hO4⟩ := HO.out.next hT (fun _ h => h)
        have hN4 : N = (actS st x).N := HI.out.2.2.trans (act_go st x).1.N.symm
        obtain ⟨st4, hst4⟩ : ∃ st4, st4 = actS st x := ⟨_, rfl⟩
        rw [← hst4] at hO4 hN4
        have HN4 := Lib.hid hN4
        clear hT hN4 hst4 q0 q1 q2 HPl HO
        go_wp2_with fail
        go_loopg [7, 8, 10] N (fun g x7 x8 x10 wr => ∃ (k : Nat) (won : Bool) (fa : Option Addr) (fc : Nat) (first : List UInt8), k + g = N ∧ x10 = .int .i64 k ∧ x7 = .bool won ∧ x8 = .slice fa first.length fc ∧ OneI W wr r nb st4 (cc + 120) gh4 G4 F4 won (.slice fa first.length fc) first)
        case atStart => exact ⟨0, won, fa, fc, first, by omega, rfl, rfl, rfl, hO4⟩
        case round =>
          clear hO4
          obtain ⟨k, won, fa, fc, first, hk, rfl, rfl, rfl, hO⟩ := hrel
          have HK := Lib.hid hk
          have hk' : k ≤ N := by omega
          clear hk
          by_cases hkN : k < N
          · have hlr := lrn_any r nb st4 (cc + 120) G4 F4 (k : Int) wr hO.l.rm
            have HLr := Lib.hid hlr
            have HO := Lib.hid hO
            clear hlr hO
            go_wp2_with fail
            refine HLr.out.mono ?_
            intro e w5 hres
            cases hc : lrnB st4 (k : Int) with
            | none =>
              rw [hc] at hres
              obtain ⟨va5, vc5, rfl, ho5, hf5⟩ := hres
              have hO5 := HO.out.up hf5
              simp only [Option.getD_none, Option.isSome_none, List.length_nil]
              clear ho5 hf5 hc HLr
              go_wp2_with fail
              go_roundg (N - (k + 1))
              case measure => have := HK.out; omega
              case rel => exact ⟨k + 1, won, fa, fc, first, by have := HK.out; omega, by go_num, rfl, rfl, hO5⟩
            | some u =>
              have hch := HO.out.k.lrn hc
              rw [hc] at hres
              obtain ⟨va5, vc5, rfl, ho5, hf5⟩ := hres
              simp only [Option.getD_some, Option.isSome_some] at ho5 ⊢
              have hO5 := HO.out.up hf5
              have hsv : Sav w5 F4 (.slice va5 u.length vc5) u := Sav.new HO.out.l ho5 (Byt.of_own (own_base ho5))
              have hO6 : OneI W w5 r nb st4 (cc + 120) gh4 G4 F4 true (.slice va5 u.length vc5) u := ⟨hO5.l, hO5.k, hsv, fun _ => hch⟩
              have HO6 := Lib.hid hO6
              cases won with
              | false =>
                clear ho5 hf5 hc HLr hO5 hsv hO6 hch
                go_wp2_with fail
                go_roundg (N - (k + 1))
                case measure => have := HK.out; omega
                case rel => exact ⟨k + 1, true, va5, vc5, u, by have := HK.out; omega, by go_num, rfl, rfl, HO6.out⟩
              | true =>
                have heq : u = first := HO.out.k.inv.one hch (HO.out.ch rfl)
                have hsm := same_any (.slice va5 u.length vc5) (.slice fa first.length fc) u first w5 hsv.1 hO5.sv.1
                rw [decide_eq_true heq] at hsm
                have HSm := Lib.hid hsm
                clear ho5 hf5 hc HLr hO5 hsv hO6 hch heq hsm
                go_wp2_with fail
                refine HSm.out.mono ?_
                rintro e w6 ⟨rfl, rfl⟩
                go_wp2_with fail
                go_roundg (N - (k + 1))
                case measure => have := HK.out; omega
                case rel => exact ⟨k + 1, true, va5, vc5, u, by have := HK.out; omega, by go_num, rfl, rfl, HO6.out⟩
          · obtain rfl : k = N := by omega
            have HO := Lib.hid hO
            clear hO
            go_wp2_with fail
            go_roundg (l.length - (i + 1))
            case measure => have := HI.out.1; omega
            case rel => exact ⟨i + 1, won, fa, fc, first, st4, cc + 120, gh4, G4, F4, by have := HI.out.1; omega, by omega, by go_num, rfl, rfl, by have := HI.out.2.1; omega, HN4.out, HO.out⟩
      · have hcs : (i < l.length ∧ ¬ (i : Int) < 200) ∨ ¬ (i < l.length) := by omega
        have HO := Lib.hid hO
        clear hO
        rcases hcs with ⟨ha, hb⟩ | ha
        all_goals
          go_wp2_with fail
          refine (known_any wr).mono ?_
          rintro e w8 ⟨rfl, hf8⟩
          have HF8 := Lib.hid (HO.out.l.fr.tr hf8)
          clear hf8
          go_wp2_with fail
          go_ret
          exact ⟨rfl, (HF8.out.mono (fun _ _ h => h.elim) : Fr (fun k => W.heap.size ≤ k) W _).below (Nat.le_refl _)⟩
end Go.Proofs.Ytkpfgoalohbfeaa
