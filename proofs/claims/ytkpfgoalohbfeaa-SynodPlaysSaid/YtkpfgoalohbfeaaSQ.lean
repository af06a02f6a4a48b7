/- Start. -/
import Derived.Test.YtkpfgoalohbfeaaSN
import Derived.Test.YtkpfgoalohbfeaaSW
namespace Go.Proofs.Ytkpfgoalohbfeaa
open Go.RowKit

def StartPost (r nb : Nat) (st : Sy) (c : Nat) (G F : Nat → Prop) (a : Int) (v : List UInt8) (w : World) (e : Ending) (w' : World) : Prop :=
  e = .returned (.tuple #[.agg #[.int .u64 ((startB st a v).1 : Int), .int .i64 (startB st a v).2], .int .i64 (startE st a v)]) ∧ RmTo w r nb (startS st a v) c G F w'

theorem start_no {w w' : World} {r nb c : Nat} {st : Sy} {G F : Nat → Prop} {a : Int} {v : List UInt8} {E : Int} (h : Rm w r nb st c G F) (hE : startE st a v = E) (hn : ¬ E = 0) (hf : Fr (fun _ => False) w w') :
    StartPost r nb st c G F a v w (.returned (.tuple #[.agg #[.int .u64 0, .int .i64 0], .int .i64 E])) w' := by
  refine ⟨?_, ?_⟩
  · unfold startB; rw [if_neg (by rw [hE]; exact hn), hE]; rfl
  · unfold startS; rw [if_neg (by rw [hE]; exact hn)]; exact RmTo.refl h hf
theorem row2b {w : World} {b : Nat} {a0 a1 : Value} (hB : Blk w b 44 #[a0, a1]) (x0 x1 : Value) : Blk ((w.setCell ⟨b, 0, none⟩ x0).setCell ⟨b, 1, none⟩ x1) b 44 #[x0, x1] := (row2 hB x0 x1).1
theorem ko_eq {w : World} {u : Value} {b i o : Nat} (hb : o ≠ i) : (w.setCell ⟨b, i, none⟩ u).cell? ⟨b, o, none⟩ = w.cell? ⟨b, o, none⟩ :=
  World.cell?_setCell_other _ _ _ _ (fun e => hb (by injection e with _ e _; exact e.symm))
/-- The node has a new ballot, a new proposer, its value. -/
theorem RmX.started {w1 w3 w4 w5 w6 w7 : World} {r nb c : Nat} {st : Sy} {G F : Nat → Prop} {sv lv : Value} {cs : Array Value} {nv : Nat → Nv} {mv : List Value} {Gp : Nat → Nat → Prop} {i r' : Nat} {v : List UInt8} {va : Option Addr} {vc : Nat} (h : RmX w1 r nb st c G F sv lv cs nv mv Gp) (hi : i < st.N)
    (h3 : w3 = ((w1.setCell ⟨nb, i * 13 + 6, none⟩ (.int .u64 (((st.nd i).seen + 1 : Nat) : Int))).setCell ⟨nb, i * 13 + 8, none⟩ (.int .u64 (((st.nd i).seen + 1 : Nat) : Int))).setCell ⟨nb, i * 13 + 9, none⟩ (.int .i64 (i : Int)))
    (hP : PR w4 r' (newP st.q ((st.nd i).seen + 1) (i : Int) 1) 0 (fun k => w3.heap.size ≤ k ∧ k < w4.heap.size)) (hf4 : Fr (fun _ => False) w3 w4)
    (h5 : w5 = w4.setCell ⟨nb, i * 13 + 7, none⟩ (.pointer (some ⟨r', 0, none⟩))) (hf6 : Fr (fun _ => False) w5 w6) (ho : w6.ownsRow w5.heap.size 5 1 (.slice va v.length vc) v.length (u8s v))
    (h7 : w7 = w6.setCell ⟨nb, i * 13 + 10, none⟩ (.slice va v.length vc)) (hv : v.length ≤ 100) (hs : (st.nd i).seen < lastN) :
    ∃ G' F', Rm w7 r nb (st.upd i (startN st i v)) c G' F' ∧ Nx G G' w1 w7 ∧ Nx F F' w1 w7 ∧ Fr G w1 w7 := by
  have hnbG := h.Gn
  have hnbF := h.GF nb hnbG
  have hlt := h.lt
  have hR := h.ndr hi
  have hx := h.wf.nd i hi
  have hN := h.wf.n12
  -- the row
  have b3 := ((h.nblk.set_ (i * 13 + 6) (.int .u64 (((st.nd i).seen + 1 : Nat) : Int))).set_ (i * 13 + 8) (.int .u64 (((st.nd i).seen + 1 : Nat) : Int))).set_ (i * 13 + 9) (.int .i64 (i : Int))
  rw [← h3] at b3
  have f3 : Fr (fun k => k = nb) w1 w3 := by rw [h3]; exact ((Fr.set1 _ _ _ _).setCell (p := ⟨nb, i * 13 + 8, none⟩) (fun _ => rfl) _).setCell (p := ⟨nb, i * 13 + 9, none⟩) (fun _ => rfl) _
  have b4 := b3.fr hf4 (fun h => h)
  have b5 := b4.set_ (i * 13 + 7) (.pointer (some ⟨r', 0, none⟩))
  rw [← h5] at b5
  have f5 : Fr (fun k => k = nb) w4 w5 := by rw [h5]; exact Fr.set1 _ _ _ _
  have b6 := b5.fr hf6 (fun h => h)
  have b7 := b6.set_ (i * 13 + 10) (.slice va v.length vc)
  rw [← h7] at b7
  have f7 : Fr (fun k => k = nb) w6 w7 := by rw [h7]; exact Fr.set1 _ _ _ _
  have z3 : w3.heap.size = w1.heap.size := by rw [h3]; simp
  have z5 : w5.heap.size = w4.heap.size := by rw [h5]; simp
  have z7 : w7.heap.size = w6.heap.size := by rw [h7]; simp
  have s4 := hf4.size
  have s6 := hf6.size
  have hf : Fr (fun k => k = nb) w1 w7 := (((f3.tr hf4.none_up).tr f5).tr hf6.none_up).tr f7
  have R7 := ((((hR.set_ hi (j0 := 6) (by omega) (.int .u64 (((st.nd i).seen + 1 : Nat) : Int))).set_ hi (j0 := 8) (by omega) (.int .u64 (((st.nd i).seen + 1 : Nat) : Int))).set_ hi (j0 := 9) (by omega) (.int .i64 (i : Int))).set_ hi (j0 := 7) (by omega) (.pointer (some ⟨r', 0, none⟩))).set_ hi (j0 := 10) (by omega) (.slice va v.length vc)
  have hnb1 := hlt nb hnbF
  have hY : ∀ k, k = nb → Ro F G k := fun k hk => .inr (hk ▸ hnbG)
  have hX : ∀ k, Ro (fun k => F k ∨ (w1.heap.size ≤ k ∧ k < w7.heap.size)) (fun k => G k ∨ (w3.heap.size ≤ k ∧ k < w4.heap.size)) k → Ro F G k := fun k hk => by
    rcases hk with h1 | h1 | h1
    · exact .inl fun h2 => h1 (.inl h2)
    · exact .inr h1
    · exact .inl fun h2 => by have := hlt k h2; omega
  obtain ⟨n1, n2, n3⟩ := h.nval i hi
  have hput := h.putN hi (x' := startN st i v) (y' := ⟨(nv i).v, .pointer (some ⟨r', 0, none⟩), .slice va v.length vc, (nv i).e⟩) (Gi := fun k => w3.heap.size ≤ k ∧ k < w4.heap.size) (F' := fun k => F k ∨ (w1.heap.size ≤ k ∧ k < w7.heap.size)) (c' := c) hf (fun k hk => .inl hk) b7 R7
    (fun k hk => .inr ⟨fun h2 => by have := hlt k h2; omega, .inr ⟨by omega, by omega⟩⟩) ((n1.fr hf hY).up hX)
    ⟨Byt.of_own (own_fr (own_base ho) f7 (fun k hk e => by have := (ho.lt k hk).1; omega)), fun k hk _ => by
      have h2 := ho.lt k hk
      refine ⟨.inr ⟨by omega, by omega⟩, fun h3 => ?_⟩
      rcases h3 with h3 | h3
      · have := hlt k (h.GF k h3); omega
      · omega⟩
    ((n3.fr hf hY).up hX)
    (.inr ⟨_, r', rfl, rfl, ((hP.fr f5 (fun k _ hk e => by omega)).fr hf6 (fun _ _ _ h => h)).fr f7 (fun k _ hk e => by omega) |>.mono (Nat.zero_le c)⟩) (Nat.le_refl c)
    ⟨hx.pn, hx.pd0, hx.pd1, hx.vt, hs, hs, by show (0 : Int) ≤ (i : Int); omega, by show (i : Int) < 12; omega, hv, hx.ln, fun p hp => by
      have hp : some (newP st.q ((st.nd i).seen + 1) (i : Int) 1) = some p := hp
      injection hp with hp
      subst hp
      exact ⟨rfl, rfl, rfl, rfl⟩⟩
    (fun k hk => .inl hk) (fun k hk => by rcases hk with hk | hk; have := hlt k hk; omega; exact hk.2)
  exact ⟨_, _, ⟨_, _, _, _, _, _, hput⟩, fun k hk => hk.elim .inl (fun h => .inr (by omega)), fun k hk => hk.elim .inl .inr, hf.mono fun k _ e => e ▸ hnbG⟩

set_option maxRecDepth 100000 in
set_option maxHeartbeats 16000000 in
theorem start_any (r nb : Nat) (st : Sy) (c : Nat) (G F : Nat → Prop) (a : Int) (s : Value) (v : List UInt8) (w : World) (h : Rm w r nb st c G F) (hv : Byt w s v) (hvX : ∀ k, s.ownBlock = some k → v ≠ [] → ¬ G k) (hvl : v.length ≤ 1000) :
    Calls Try.prog 22 #[.pointer (some ⟨r, 0, none⟩), .int .i64 a, s] w (StartPost r nb st c G F a v w) := by
  have hv0 := hv
  obtain ⟨sa, sc, rfl, -, -⟩ := hv0
  obtain ⟨w1, hw1⟩ : ∃ w1, w1 = w.alloc (.cells #[.int .u64 0, .int .i64 0] 44) := ⟨_, rfl⟩
  have hf1 : Fr (fun _ => False) w w1 := by rw [hw1]; exact (Fr.refl _ w).alloc _
  obtain ⟨bb, hbb⟩ : ∃ b, b = w.heap.size := ⟨_, rfl⟩
  have hB1 : Blk w1 bb 44 #[.int .u64 0, .int .i64 0] := by rw [hw1, hbb]; exact Blk.new _ _ _
  have h1 := h.none_ hf1
  have hE : startE st a v = if inSy st a = true ∧ v.length ≤ 100 then (if lastN ≤ (st.nd a.toNat).seen then 5 else 0) else 2 := by
    unfold startE inSy
    simp only [decide_eq_true_eq, and_assoc]
  have HE := Lib.hid hE
  have HI := Lib.hid (is_any' r nb st c G F a w1 h1)
  have HW1 := Lib.hid (And.intro hw1 hbb)
  have HH := Lib.hid (And.intro h (And.intro hf1 (And.intro hB1 (hv.fr hf1 (fun _ _ h => h)))))
  have HBB := Lib.hid hbb
  have x0 := hB1.cell 0 rfl
  have x1 := hB1.cell 1 rfl
  have xf := hB1.frozen
  have HX := Lib.hid (row2 hB1 (.int .u64 0) (.int .i64 0))
  -- what is told of a call that does nothing
  have hno : ∀ E, startE st a v = E → ¬ E = 0 → StartPost r nb st c G F a v w (.returned (.tuple #[.agg #[.int .u64 0, .int .i64 0], .int .i64 E])) ((w1.setCell ⟨bb, 0, none⟩ (.int .u64 0)).setCell ⟨bb, 1, none⟩ (.int .i64 0)) := fun E hE hn =>
    start_no h hE hn (hf1.trans HX.out.2 (fun k hk hx => hx.elim id (fun e => by omega)))
  have HNo := Lib.hid hno
  have hwf := h.wf
  cases hb : inSy st a with
  | false =>
    have HB := Lib.hid hb
    have HE2 := Lib.hid (show startE st a v = 2 by rw [hE, hb]; simp)
    clear h h1 hb hE hw1 hbb hB1 hno hv hvX hf1
    go_enter Try.func22, Try.ntmps22
    go_upto_region 1 with (fail)
    rw [← HW1.out.1, ← HW1.out.2]
    clear HW1
    go_wp2_with fail
    refine HI.out.mono ?_
    rintro e w2 ⟨rfl, rfl⟩
    rw [HB.out]
    go_wp2_with fail
    refine bodyPost_ret (results_row_tmp rfl _ _ bb 44 #[.int .u64 0, .int .i64 0] (0, 0) _ rfl HX.out.1 Try.underlying44 rfl (by kernel_rfl)) rfl ?_
    exact HNo.out 2 HE2.out (by decide)
  | true =>
    have HB := Lib.hid hb
    by_cases hl : v.length ≤ 100
    · obtain ⟨i, rfl, hi⟩ := inSy_nat h.wf hb
      obtain ⟨sv0, la, lc, -, -, -, -, -, r5, -⟩ := h1.cells
      obtain ⟨sv, lv, cs, nv, mv, Gp, h1⟩ := h1
      have hR := h1.ndr hi
      have n6 : w1.cell? ⟨nb, i * 13 + 6, none⟩ = some (.int .u64 ((st.nd i).seen : Int)) := hR.cell h1.nblk (j := 6) rfl
      have n8 : w1.cell? ⟨nb, i * 13 + 8, none⟩ = some (.int .u64 ((st.nd i).bn : Int)) := hR.cell h1.nblk (j := 8) rfl
      have n9 : w1.cell? ⟨nb, i * 13 + 9, none⟩ = some (.int .i64 (st.nd i).bd) := hR.cell h1.nblk (j := 9) rfl
      have nf := h1.nblk.frozen
      have hN12 := h1.wf.n12.2.1
      have hiI : (i : Int) < (st.N : Int) := by omega
      have hl' : ¬ (100 : Int) < (v.length : Int) := by omega
      by_cases hs : 4611686018427387904 ≤ (st.nd i).seen
      · have HE2 := Lib.hid (show startE st (i : Int) v = 5 by rw [hE, hb, if_pos ⟨rfl, hl⟩, Int.toNat_natCast]; unfold lastN; rw [if_pos hs])
        have hs' : (4611686018427387904 : Int) ≤ ((st.nd i).seen : Int) := by omega
        clear h h1 hb hE hw1 hbb hB1 hno hv hvX hf1 hR
        go_enter Try.func22, Try.ntmps22
        go_upto_region 1 with (fail)
        rw [← HW1.out.1, ← HW1.out.2]
        clear HW1
        go_wp2_with fail
        refine HI.out.mono ?_
        rintro e w2 ⟨rfl, rfl⟩
        rw [HB.out]
        go_wp2_with fail
        refine bodyPost_ret (results_row_tmp rfl _ _ bb 44 #[.int .u64 0, .int .i64 0] (0, 0) _ rfl HX.out.1 Try.underlying44 rfl (by kernel_rfl)) rfl ?_
        exact HNo.out 5 HE2.out (by decide)
      · have hs2 : (st.nd i).seen < 4611686018427387904 := by omega
        have hs' : ((st.nd i).seen : Int) ≤ 4611686018427387903 := by omega
        have HS2 := Lib.hid hs2
        have HE2 := Lib.hid (show startE st (i : Int) v = 0 by rw [hE, hb, if_pos ⟨rfl, hl⟩, Int.toNat_natCast]; unfold lastN; rw [if_neg hs])
        have H1 := Lib.hid (And.intro h1 hvX)
        clear hs hs2 h h1 hb hE hw1 hbb hB1 hno hv hvX hf1 hR HNo
        go_enter Try.func22, Try.ntmps22
        go_upto_region 1 with (fail)
        rw [← HW1.out.1, ← HW1.out.2]
        clear HW1
        go_wp2_with fail
        refine HI.out.mono ?_
        rintro e w2 ⟨rfl, rfl⟩
        rw [HB.out]
        have HS' := Lib.hid hs'
        clear hs'
        go_upto_region 6 with (fail)
        go_upto_if 35 with (fail)
        rw [show decide ((4611686018427387904 : Int) ≤ ((st.nd i).seen : Int)) = false from decide_eq_false (by have := HS'.out; omega)]
        go_upto_region 10 with (fail)
        rw [show IntKind.u64.wrap (((st.nd i).seen : Int) + 1) = (((st.nd i).seen + 1 : Nat) : Int) by rw [IntKind.wrap_u64]; have := HS2.out; omega, show i * 13 + 8 + 1 = i * 13 + 9 by omega]
        obtain ⟨w3, hw3⟩ : ∃ w3, w3 = ((w1.setCell ⟨nb, i * 13 + 6, none⟩ (.int .u64 (((st.nd i).seen + 1 : Nat) : Int))).setCell ⟨nb, i * 13 + 8, none⟩ (.int .u64 (((st.nd i).seen + 1 : Nat) : Int))).setCell ⟨nb, i * 13 + 9, none⟩ (.int .i64 (i : Int)) := ⟨_, rfl⟩
        rw [← hw3]
        have h1 := H1.out.1
        have hB3 := ((h1.nblk.set_ (i * 13 + 6) (.int .u64 (((st.nd i).seen + 1 : Nat) : Int))).set_ (i * 13 + 8) (.int .u64 (((st.nd i).seen + 1 : Nat) : Int))).set_ (i * 13 + 9) (.int .i64 (i : Int))
        rw [← hw3] at hB3
        have hR3 := ((((h1.ndr hi).set_ hi (j0 := 6) (by omega) (.int .u64 (((st.nd i).seen + 1 : Nat) : Int))).set_ hi (j0 := 8) (by omega) (.int .u64 (((st.nd i).seen + 1 : Nat) : Int))).set_ hi (j0 := 9) (by omega) (.int .i64 (i : Int)))
        have hf3 : Fr (fun k => k = nb) w1 w3 := by rw [hw3]; exact ((Fr.set1 _ _ _ _).setCell (p := ⟨nb, i * 13 + 8, none⟩) (fun _ => rfl) _).setCell (p := ⟨nb, i * 13 + 9, none⟩) (fun _ => rfl) _
        clear n6 n8 n9 nf r5 sv0
        have n8 : w3.cell? ⟨nb, i * 13 + 8, none⟩ = some (.int .u64 (((st.nd i).seen + 1 : Nat) : Int)) := hR3.cell hB3 (j := 8) rfl
        have n9 : w3.cell? ⟨nb, i * 13 + 9, none⟩ = some (.int .i64 (i : Int)) := hR3.cell hB3 (j := 9) rfl
        have n7 : w3.cell? ⟨nb, i * 13 + 7, none⟩ = some (nv i).p := hR3.cell hB3 (j := 7) rfl
        have n10 : w3.cell? ⟨nb, i * 13 + 10, none⟩ = some (nv i).a := hR3.cell hB3 (j := 10) rfl
        have nf := hB3.frozen
        have hrn : r ≠ nb := h1.blk.ne_ h1.nblk (by decide)
        have hrb := h1.blk.fr hf3 hrn
        have hsite := own_fr h1.site hf3 (fun k hk e => (h1.siteF k hk).2 (e ▸ h1.Gn))
        obtain ⟨A, sc2, hsv⟩ := own_sl5 hsite
        have hnil : ∀ c, sv = .slice none 0 c → c = 0 := fun c e => by
          rcases own_form hsite with ⟨e1, _, _⟩ | ⟨_, _, _, e1, _⟩
          · rw [e1] at e; injection e with _ _ e; exact e.symm
          · rw [e1] at e; injection e with e; cases e
        have hright := h1.wf.ok.right
        have HNw := Lib.hid (new_ok st.q sv ((st.nd i).seen + 1) (i : Int) 1 w3.drew (ints_own hsite) hnil h1.wf.ql hright (by unfold rightB; exact decide_eq_true ⟨by omega, by omega, by omega⟩) (by have := HS2.out; omega) (by omega) (by omega))
        rw [hsv] at HNw hrb
        simp only [Qu.v] at HNw
        have r0 : w3.cell? ⟨r, 0, none⟩ = some (.int .i64 st.q.k) := hrb.cell 0 rfl
        have r1 : w3.cell? ⟨r, 1, none⟩ = some (.int .i64 st.q.n) := hrb.cell 1 rfl
        have r2 : w3.cell? ⟨r, 2, none⟩ = some (.int .i64 st.q.o) := hrb.cell 2 rfl
        have r3 : w3.cell? ⟨r, 3, none⟩ = some (.int .i64 st.q.t) := hrb.cell 3 rfl
        have r4 : w3.cell? ⟨r, 4, none⟩ = some (.slice A st.q.s.length sc2) := hrb.cell 4 rfl
        have hby3 := HH.out.2.2.2.fr' hf3 (fun k hk hn e => H1.out.2 k hk hn (e ▸ h1.Gn))
        have H3 := Lib.hid (And.intro hw3 (And.intro hB3 (And.intro hf3 (And.intro hby3 (And.intro hR3 n10)))))
        clear hw3 hB3 hR3 hf3 hrb hsite hsv hnil hright h1 hby3 n10 hwf
        have h78 : i * 13 + 8 ≠ i * 13 + 7 := by omega
        have h79 : i * 13 + 8 + 1 ≠ i * 13 + 7 := by omega
        go_region_held3 (fun wx => wx.cell? ⟨r, 0, none⟩ = some (.int .i64 st.q.k) ∧ wx.cell? ⟨r, 1, none⟩ = some (.int .i64 st.q.n) ∧ wx.cell? ⟨r, 2, none⟩ = some (.int .i64 st.q.o) ∧ wx.cell? ⟨r, 3, none⟩ = some (.int .i64 st.q.t) ∧ wx.cell? ⟨r, 4, none⟩ = some (.slice A st.q.s.length sc2) ∧ wx.cell? ⟨nb, i * 13 + 8, none⟩ = some (.int .u64 (((st.nd i).seen + 1 : Nat) : Int)) ∧ wx.cell? ⟨nb, i * 13 + 8 + 1, none⟩ = some (.int .i64 (i : Int))) (first | (simp only [ks_eq hrn, ko_eq h78, ko_eq h79, hS4.1, hS4.2.1, hS4.2.2.1, hS4.2.2.2.1, hS4.2.2.2.2.1, hS4.2.2.2.2.2.1, hS4.2.2.2.2.2.2, and_self]; done) | exact hS4 | exact ⟨r0, r1, r2, r3, r4, n8, n9⟩)
          ((go_at_call 37
            refine HNw.out.mono ?_
            rintro e w4 ⟨r', rfl, hP4, hf4⟩
            have hS4 := And.intro (hf4.cell r0 (fun h => h)) (And.intro (hf4.cell r1 (fun h => h)) (And.intro (hf4.cell r2 (fun h => h)) (And.intro (hf4.cell r3 (fun h => h)) (And.intro (hf4.cell r4 (fun h => h)) (And.intro (hf4.cell n8 (fun h => h)) (hf4.cell n9 (fun h => h)))))))
            have n7' := hf4.cell n7 (fun h => h)
            have nf' := (H3.out.2.1.drew.fr hf4 (fun h => h)).frozen (i * 13 + 7)))
        all_goals
          obtain ⟨w5, hw5⟩ : ∃ w5, w5 = w4.setCell ⟨nb, i * 13 + 7, none⟩ (.pointer (some ⟨r', 0, none⟩)) := ⟨_, rfl⟩
          rw [← hw5]
          have hB5 := (H3.out.2.1.drew.fr hf4 (fun h => h)).set_ (i * 13 + 7) (.pointer (some ⟨r', 0, none⟩))
          rw [← hw5] at hB5
          have hf5 : Fr (fun k => k = nb) w1 w5 := (H3.out.2.2.1.drew.tr hf4.none_up).tr (by rw [hw5]; exact Fr.set1 _ _ _ _)
          have hby5 := HH.out.2.2.2.fr' hf5 (fun k hk hn e => H1.out.2 k hk hn (e ▸ H1.out.1.Gn))
          have HBY := Lib.hid hby5
          have H5 := Lib.hid (And.intro hw5 (And.intro hP4 hf4))
          clear hw5 hS4 n7' nf' hP4 hf4 hby5 r0 r1 r2 r3 r4 n7 n8 n9 nf hf5
          go_upto_region 12 with (first
            | (at_builtin
               refine wpList_bi2 rfl .append _ _ _ _ _ rfl rfl rfl _ (ap_new w5 _ v HBY.out (by omega) _) ?_
               rintro v' w6 hN
               obtain ⟨va, vc, rfl, ho6, hf6⟩ := hN.res (Fr.refl _ w5)
               have hB6 := hB5.fr hf6 (fun h => h)
               have n10 : w6.cell? ⟨nb, i * 13 + 10, none⟩ = some (nv i).a := by
                 refine (H3.out.2.2.2.2.1.set_ hi (j0 := 7) (by omega) (.pointer (some ⟨r', 0, none⟩))).cell hB6 (j := 10) ?_
                 rfl
               have n10f := hB6.frozen (i * 13 + 10)))
          obtain ⟨w7, hw7⟩ : ∃ w7, w7 = w6.setCell ⟨nb, i * 13 + 10, none⟩ (.slice va v.length vc) := ⟨_, rfl⟩
          rw [← hw7]
          obtain ⟨G2, F2, hR7, hnG7, hnF7, hf17⟩ := H1.out.1.started (w3 := w3) hi H3.out.1 H5.out.2.1 ((Fr.refl (fun _ => False) w3).drew.tr H5.out.2.2) H5.out.1 hf6 ho6 hw7 hl HS2.out
          have hb7 := hR7.bcells (i := i) hi
          rw [upd_nd'] at hb7
          have n8 : w7.cell? ⟨nb, i * 13 + 8, none⟩ = some (.int .u64 (((st.nd i).seen + 1 : Nat) : Int)) := hb7.1
          have n9 : w7.cell? ⟨nb, i * 13 + 9, none⟩ = some (.int .i64 (i : Int)) := hb7.2
          have hall := all_any r nb (st.upd i (startN st i v)) c G2 F2 (startL st i) (.slice none 0 0) w7 hR7 (fun j hj => startL_wf (st := st) hi hj hN12 (by have := HS2.out; unfold lastN; omega)) (VtL.nil _ _)
          have HAll := Lib.hid hall
          simp only [mailV] at HAll
          have H7 := Lib.hid (And.intro hR7 (And.intro hnG7 (And.intro hnF7 hf17)))
          clear hb7 hall hR7 hnG7 hnF7 hf17 hw7 hB6 n10 n10f hB5 ho6 hf6
          go_wp2_with fail
          refine HAll.out.mono ?_
          rintro e w8 ⟨rfl, G3, F3, hR8, hnG8, hnF8, hf78⟩
          have hb8 := hR8.bcells (i := i) (by rw [allS_N]; exact hi)
          rw [allS_nd, upd_nd'] at hb8
          clear n8 n9
          have n8 : w8.cell? ⟨nb, i * 13 + 8, none⟩ = some (.int .u64 (((st.nd i).seen + 1 : Nat) : Int)) := hb8.1
          have n9 : w8.cell? ⟨nb, i * 13 + 9, none⟩ = some (.int .i64 (i : Int)) := hb8.2
          obtain ⟨h, hf1, hB1, -⟩ := HH.out
          obtain ⟨hR7, hnG7, hnF7, hf17⟩ := H7.out
          have hbb := HBB.out
          have hFlt := h.lt
          have hGF := h.GF
          have hs1 := hf1.size
          have hs17 := hf17.size
          have hs78 := hf78.size
          have hbF : ¬ F bb := fun hF => by have := hFlt bb hF; omega
          have hbG : ¬ G bb := fun hG => hbF (hGF bb hG)
          have hbl := hB1.lt
          have hbG2 : ¬ G2 bb := fun hg => (hnG7 bb hg).elim hbG (fun h => by omega)
          have hbF2 : ¬ F2 bb := fun hg => (hnF7 bb hg).elim hbF (fun h => by omega)
          have hbF3 : ¬ F3 bb := fun hg => (hnF8 bb hg).elim hbF2 (fun h => by omega)
          have hB8 := (hB1.fr hf17 hbG).fr hf78 hbG2
          clear x0 x1 xf
          have x0 := hB8.cell 0 rfl
          have x1 := hB8.cell 1 rfl
          have xf := hB8.frozen
          have HX8 := Lib.hid (row2 hB8 (.int .u64 (((st.nd i).seen + 1 : Nat) : Int)) (.int .i64 (i : Int)))
          have hfin : RmTo w r nb (startS st (i : Int) v) c G F ((w8.setCell ⟨bb, 0, none⟩ (.int .u64 (((st.nd i).seen + 1 : Nat) : Int))).setCell ⟨bb, 1, none⟩ (.int .i64 (i : Int))) := by
            have hst : startS st (i : Int) v = allS (st.upd i (startN st i v)) (startL st i) st.N := by unfold startS; rw [if_pos HE2.out, Int.toNat_natCast]
            rw [hst]
            have hs9 := HX8.out.2.size
            have q4 : Fr G w w8 := (hf1.none_up.tr hf17).trans hf78 (fun k hk hx => hx.elim id (fun hg => (hnG7 k hg).elim id (fun h => by omega)))
            refine ⟨G3, F3, hR8.fr HX8.out.2 (fun k hk e => hbF3 (e ▸ hk)), fun k hk => ?_, fun k hk => ?_, q4.trans HX8.out.2 (fun k hk hx => hx.elim id (fun e => by omega))⟩
            · rcases hnG8 k hk with h5 | h5
              · exact (hnG7 k h5).imp id (fun h => by omega)
              · exact .inr (by omega)
            · rcases hnF8 k hk with h5 | h5
              · exact (hnF7 k h5).imp id (fun h => by omega)
              · exact .inr (by omega)
          have HFin := Lib.hid hfin
          clear hfin hB8 hB1 hR8 hb8 hR7 hf17 hf78 h hf1 hbb hs1 hs17 hs78
          go_wp2_with fail
          refine bodyPost_ret (results_row_tmp rfl _ _ bb 44 #[.int .u64 (((st.nd i).seen + 1 : Nat) : Int), .int .i64 (i : Int)] (0, 0) _ rfl HX8.out.1 Try.underlying44 rfl (by kernel_rfl)) rfl ⟨?_, HFin.out⟩
          unfold startB
          rw [HE2.out, if_pos rfl, Int.toNat_natCast]
          rfl
    · have hl' : (100 : Int) < (v.length : Int) := by omega
      have HE2 := Lib.hid (show startE st a v = 2 by rw [hE, if_neg (fun k => hl k.2)])
      clear h h1 hb hE hw1 hbb hB1 hno hv hvX hf1
      go_enter Try.func22, Try.ntmps22
      go_upto_region 1 with (fail)
      rw [← HW1.out.1, ← HW1.out.2]
      clear HW1
      go_wp2_with fail
      refine HI.out.mono ?_
      rintro e w2 ⟨rfl, rfl⟩
      rw [HB.out]
      go_wp2_with fail
      refine bodyPost_ret (results_row_tmp rfl _ _ bb 44 #[.int .u64 0, .int .i64 0] (0, 0) _ rfl HX.out.1 Try.underlying44 rfl (by kernel_rfl)) rfl ?_
      exact HNo.out 2 HE2.out (by decide)
end Go.Proofs.Ytkpfgoalohbfeaa
