/- The walk of ProposeMust. -/
import Derived.Test.YtliljjlegofmkaaPMu
import Derived.Test.YtliljjlegofmkaaPMx
import Derived.Deep.RegionHeld3
import Derived.Deep.LoopGhost
import Derived.Deep.AppendLies
import Derived.KernelRfl
namespace Go.Proofs.Ytliljjlegofmkaa
open Go.RowKit

def Q12 : Qu := ⟨1, 12, 1, 12, []⟩
theorem q12_right : rightE Q12 = 0 := by kernel_rfl
def topN : Nat := 18446744073709551615
theorem vtinfo : (Try.prog.info? 45).map (fun i => (i.zero, i.size, i.bytes)) = some (some (.agg #[.int .u64 0, .int .u64 0, .int .i64 0, .slice none 0 0]), 4, 48) := by kernel_rfl
/-- The law's proposer, its marks, its ballot, and the votes that it was told. -/
structure MuR (W w : World) (r bt b7 : Nat) (p : Ps) (c S : Nat) (lv : Value) (L : List Vt) (vs : List Value) (G : Nat → Prop) : Prop where
  l : Lw W w r p c G
  t : Blk w bt 72 (tolds S)
  b : Blk w b7 33 #[.int .u64 (topN : Nat), .int .i64 11]
  s : SentV W w lv L vs
  nt : ¬ G bt
  nb : ¬ G b7
  ns : ∀ j, lv.ownBlock = some j → ¬ G j
section
variable {W w w' : World} {r bt b7 c c' S : Nat} {p p' : Ps} {lv lv' : Value} {L : List Vt} {vs : List Value} {G G' : Nat → Prop}
theorem MuR.up (h : MuR W w r bt b7 p c S lv L vs G) (hf : Fr (fun _ => False) w w') : MuR W w' r bt b7 p c S lv L vs G :=
  ⟨h.l.up hf, h.t.fr hf (fun h => h), h.b.fr hf (fun h => h), h.s.fr hf (fun _ _ h => h), h.nt, h.nb, h.ns⟩
theorem MuR.next (h : MuR W w r bt b7 p c S lv L vs G) (hl : Lw W w' r p' c' G') (hn : Nx G G' w w') (hf : Fr G w w') : MuR W w' r bt b7 p' c' S lv L vs G' :=
  ⟨hl, h.t.fr hf h.nt, h.b.fr hf h.nb, h.s.fr hf h.ns, hn.not h.nt h.t.lt, hn.not h.nb h.b.lt, fun j hj => hn.not (h.ns j hj) (own_lt (own_base h.s.row) hj)⟩
theorem MuR.end_ (h : MuR W w r bt b7 p c S lv L vs G) (hf : Fr (fun _ => False) w w') : Below W.heap.size W w' := h.l.none_ hf
theorem MuR.mark (h : MuR W w r bt b7 p c S lv L vs G) (hlo : W.heap.size ≤ bt) {x : Nat} (hx : x < 12) (u : Value) (hu : u = .bool true) : MuR W (w.setCell ⟨bt, x, none⟩ u) r bt b7 p c (S ||| 2 ^ x) lv L vs G := by
  subst hu
  have hf : Fr (fun k => k = bt) w (w.setCell ⟨bt, x, none⟩ (.bool true)) := Fr.set1 _ _ _ _
  have ht := h.t.set_ x (.bool true)
  rw [tolds_set S x hx] at ht
  refine ⟨h.l.off hf (fun k hk => by subst hk; exact ⟨h.nt, hlo⟩), ht, h.b.fr hf (h.b.ne_ h.t (by decide)), h.s.fr hf (fun k hk => own_blk_ne h.s.row h.t (by decide) k hk), h.nt, h.nb, h.ns⟩
theorem MuR.more {p' : Vt} {s : Value} (h : MuR W w r bt b7 p c S lv L vs G) (hs : Byt W s p'.v) (ha : Appended W.heap.size 45 4 w lv L.length 1 (flatV L vs) [.int .u64 p'.s, .int .u64 p'.n, .int .i64 p'.d, s] lv' w') :
    MuR W w' r bt b7 p c S lv' (L ++ [p']) (vs ++ [s]) G := by
  have hf : Fr (fun k => lv.ownBlock = some k) w w' := (Fr.refl _ w).grown ha.2.1 (fun k hk _ => hk)
  have hX : ∀ k, lv.ownBlock = some k → ¬ G k ∧ W.heap.size ≤ k := fun k hk => ⟨h.ns k hk, (h.s.row.lt k hk).1⟩
  refine ⟨h.l.off hf hX, h.t.fr hf (fun e => own_blk_ne h.s.row h.t (by decide) _ e rfl), h.b.fr hf (fun e => own_blk_ne h.s.row h.b (by decide) _ e rfl), h.s.more hs ha, h.nt, h.nb, fun j hj => ?_⟩
  rcases ha.2.2 with e | e
  · rw [e] at hj; exact h.ns j hj
  · rw [e] at hj
    injection hj with hj
    subst hj
    exact h.l.not_new (Nat.le_refl _)
theorem vtl_at {W : World} {v : Value} {ps : List Vt} {X : Nat → Prop} (h : VtL W v ps X) : ∃ A c, v = .slice A ps.length c := by
  obtain ⟨⟨A, c, rfl, -⟩, -⟩ := h
  exact ⟨A, c, rfl⟩
end

/-- What the law knows of its proposer. -/
structure M0 (p : Ps) (k S : Nat) (L : List Vt) : Prop where
  q : p.q = Q12
  f : p.f = 1
  n : p.n = topN
  d : p.d = 11
  sl : ∀ j, p.sl j = none
  s : p.set = S
  mu : MuAll (p.mu k) L
theorem M0.new (k : Nat) : M0 (newP Q12 topN 11 1) k 0 [] := ⟨rfl, rfl, rfl, rfl, fun _ => rfl, rfl, .inl ⟨rfl, rfl⟩⟩
theorem prmP_n (p : Ps) (x : Int) (l : List Vt) : (prmP p x l).n = p.n := by unfold prmP; split <;> rfl
theorem prmP_d (p : Ps) (x : Int) (l : List Vt) : (prmP p x l).d = p.d := by unfold prmP; split <;> rfl
theorem M0.prm {p : Ps} {k S : Nat} {L : List Vt} (h : M0 p k S L) {x : Int} {y : Nat} (hy : x = (y : Int)) {l : List Vt} (hE : prmE p x l = 0) (ht : S.testBit y = false) : M0 (prmP p x l) k (S ||| 2 ^ y) (L ++ selV k l) := by
  subst hy
  obtain ⟨e1, e2⟩ := prmP_mu hE (by rw [h.s]; exact ht)
  refine ⟨(prmP_q _ _ _).trans h.q, (prmP_f _ _ _).trans h.f, (prmP_n _ _ _).trans h.n, (prmP_d _ _ _).trans h.d, fun j => by rw [prmP_sl]; exact h.sl j, by rw [e2, h.s]; rfl, ?_⟩
  rw [e1]
  exact h.mu.fold l
theorem M0.pro {p : Ps} {k S : Nat} {L : List Vt} (h : M0 p k S L) (hw : Wf p) (hk : 1 ≤ k) (hr : readyB p = true) (own : List UInt8) (ho : own.length ≤ 100) :
    proE p k own = 0 ∧ proV p k own = ⟨k, topN, 11, (muB p k).getD own⟩ := by
  have hl : (proVal p k own).length ≤ 100 := by
    unfold proVal muB
    cases hm : p.mu k with
    | none => simpa using ho
    | some y => obtain ⟨v, nd⟩ := y; exact (hw.mu k v nd hm).2.2
  have e : proE p k own = 0 := by
    unfold proE
    rw [hr, h.f, if_pos rfl, if_neg (by omega), h.sl k]
    simp only
    rw [if_neg (by omega)]
  refine ⟨e, ?_⟩
  unfold proV
  rw [if_pos e, h.sl k]
  simp only [h.n, h.d]
  rfl
theorem tolds_0 : tolds 0 = #[.bool false, .bool false, .bool false, .bool false, .bool false, .bool false, .bool false, .bool false, .bool false, .bool false, .bool false, .bool false] := by
  simp [tolds, List.range, List.range.loop]

set_option maxRecDepth 100000 in
set_option maxHeartbeats 32000000 in
theorem must_law (v1 v3 : Value) (l : List At) (slot : Nat) (own : List UInt8) (W : World) (h1 : AtL W v1 l (fun k => W.heap.size ≤ k)) (hs64 : slot < 18446744073709551616) (h2 : Byt W v3 own) (hol : own.length ≤ maxLen) :
    Calls Try.prog 8 #[v1, .int .u64 slot, v3] W fun e w' => e = .returned (.bool true) ∧ Below W.heap.size W w' := by
  obtain ⟨i0, hi0, hz0, hz1, hz2⟩ := info_parts vtinfo
  have HL1 := Lib.hid (long_any v1 l _ W h1)
  have HO := Lib.hid h2
  obtain ⟨A, c, rfl, hlm, hl⟩ := h1
  obtain ⟨C, oc, rfl, -, -⟩ := h2
  unfold maxLen at hlm hol
  have HL := Lib.hid hl
  clear hl
  go_enter Try.func8, Try.ntmps8
  go_wp2_with fail
  refine HL1.out.mono ?_
  rintro e w1 ⟨b1, rfl, rfl, hb1⟩
  have HB1 := Lib.hid hb1
  clear hb1 HL1
  cases b1 with
  | true =>
    go_wp2_with fail
    refine (known_any W).mono ?_
    rintro e w2 ⟨rfl, hf⟩
    go_wp2_with fail
    go_ret
    exact ⟨rfl, hf.none_up.below (Nat.le_refl _)⟩
  | false =>
  have HSh := Lib.hid (HB1.out rfl)
  clear HB1
  by_cases ho1 : (100 : Int) < (own.length : Int)
  · go_wp2_with fail
    refine (known_any W).mono ?_
    rintro e w2 ⟨rfl, hf⟩
    go_wp2_with fail
    go_ret
    exact ⟨rfl, hf.none_up.below (Nat.le_refl _)⟩
  have ho100 : own.length ≤ 100 := by omega
  by_cases hsl : slot = 0
  · have hsl' : ((slot : Int) == 0) = true := by simp [hsl]
    go_wp2_with fail
    refine (known_any W).mono ?_
    rintro e w2 ⟨rfl, hf⟩
    go_wp2_with fail
    go_ret
    exact ⟨rfl, hf.none_up.below (Nat.le_refl _)⟩
  have hsl' : ((slot : Int) == 0) = false := by simp [hsl]
  have hsl1 : 1 ≤ slot := by omega
  obtain ⟨w1, hw1⟩ : ∃ w1, w1 = W.alloc (.cells #[.int .u64 (topN : Nat), .int .i64 11] 33) := ⟨_, rfl⟩
  have hf1 : Fr (fun _ => False) W w1 := by rw [hw1]; exact (Fr.refl _ W).alloc _
  have hB1 : Blk w1 W.heap.size 33 #[.int .u64 (topN : Nat), .int .i64 11] := by rw [hw1]; exact Blk.new _ _ _
  obtain ⟨b7, hb7⟩ : ∃ b, b = W.heap.size := ⟨_, rfl⟩
  rw [← hb7] at hB1
  have HW1 := Lib.hid hw1
  have HB7 := Lib.hid hb7
  have hto : (18446744073709551615 : Int) = (topN : Nat) := rfl
  have HTO := Lib.hid hto
  have b0 := hB1.cell 0 rfl
  have b1 := hB1.cell 1 rfl
  clear hw1 hb7 hto
  go_upto_region 4 with (fail)
  first | rw [HTO.out] | skip
  rw [← HW1.out, ← HB7.out]
  clear HW1
  go_wp2_with fail
  refine (new_lw W w1 hf1.none_up Q12 (.slice none 0 0) topN 11 1 (ints_nil w1) (fun c h => by injection h with _ _ h; exact h.symm) (by decide) q12_right (by decide) (by decide) (by omega) (by omega)).mono ?_
  rintro e w2 ⟨r, G, rfl, hL, hf2, hge⟩
  have hB2 := hB1.fr hf2 (fun h => h)
  have hnb : ¬ G b7 := fun h => by have := hge _ h; have := hB1.lt; omega
  clear b0 b1 hB1 hf2 hge hf1
  obtain ⟨w3, hw3⟩ : ∃ w3, w3 = w2.alloc (.cells #[.bool false, .bool false, .bool false, .bool false, .bool false, .bool false, .bool false, .bool false, .bool false, .bool false, .bool false, .bool false] 72) := ⟨_, rfl⟩
  have hf3 : Fr (fun _ => False) w2 w3 := by rw [hw3]; exact (Fr.refl _ w2).alloc _
  obtain ⟨bt, hbt⟩ : ∃ b, b = w2.heap.size := ⟨_, rfl⟩
  have hT3 : Blk w3 bt 72 (tolds 0) := by rw [tolds_0, hw3, hbt]; exact Blk.new _ _ _
  have hM : MuR W w3 r bt b7 (newP Q12 topN 11 1) 0 0 (.slice none 0 0) [] [] G :=
    ⟨hL.up hf3, hT3, hB2.fr hf3 (fun h => h), SentV.nil _ _, by rw [hbt]; exact hL.not_new (Nat.le_refl _), hnb, fun j hj => by simp [Value.ownBlock] at hj⟩
  have hlo : W.heap.size ≤ bt := by rw [hbt]; exact hL.fr.size
  have HM0 := Lib.hid (M0.new slot)
  generalize newP Q12 topN 11 1 = p0 at hM HM0
  have HW3 := Lib.hid hw3
  have HBT := Lib.hid hbt
  have HLo := Lib.hid hlo
  clear hw3 hbt hf3 hT3 hL hB2 hnb hlo
  go_upto_region 9 with (fail)
  rw [← HW3.out, ← HBT.out]
  clear HW3 HBT
  go_wp2_with fail
  go_loopg [10, 12] l.length (fun g x10 x12 wr => ∃ (j c S : Nat) (va : Option Addr) (vc : Nat) (L : List Vt) (vs : List Value) (p : Ps) (G : Nat → Prop), j + g = l.length ∧ x12 = .int .i64 j ∧ x10 = .slice va L.length vc ∧ c ≤ 4000 * j ∧ L.length ≤ 4000 * j ∧ j ≤ 30 ∧ M0 p slot S L ∧ MuR W wr r bt b7 p c S (.slice va L.length vc) L vs G)
  case atStart => exact ⟨0, 0, 0, none, 0, [], [], p0, G, by omega, rfl, rfl, by omega, by simp, by omega, HM0.out, hM⟩
  case round =>
    clear hM HM0 p0 G
    obtain ⟨j, cc, S, va, vc, L, vs, p, G, hj, rfl, rfl, hcc, hLl, hj30, hS, hM⟩ := hrel
    have HJ := Lib.hid hj
    have HS := Lib.hid hS
    have hj' : j ≤ l.length := by omega
    clear hj hS
    by_cases hlt : j < l.length ∧ j < 30
    · obtain ⟨hlt, hlt2⟩ := hlt
      have hlt3 : (j : Int) < 30 := by omega
      obtain ⟨x, hx⟩ : ∃ x, l[j]? = some x := ⟨_, List.getElem?_eq_getElem hlt⟩
      obtain ⟨b, off, os, vs', rfl, hat⟩ := HL.out j x hx
      have hvl := (HSh.out j x hlt (by omega) hx).2.1
      have hat' := hat.up hM.l.fr (fun _ h => h)
      have HAT := Lib.hid hat
      have hvot := hat.vot
      obtain ⟨⟨Av, cv, rfl, -⟩, -⟩ := hvot
      have q1 := hat'.c1
      have q4 := hat'.c4
      have hjj0 : (0 : Int) ≤ (j : Int) := by omega
      have hjj1 : (j : Int) < (l.length : Int) := by omega
      clear hat hat' hx
      have hf := (Fr.refl (fun _ => False) wr).drew
      go_upto_region 12 with (fail)
      first
        | go_region_held3 (fun wx => wx.cell? ⟨b, off + j * 5 + 1, none⟩ = some (.int .i64 x.n) ∧ wx.cell? ⟨b, off + j * 5 + 4, none⟩ = some (.slice Av x.v.length cv)) (first | exact ⟨q1, q4⟩ | exact hS4)
          ((go_at_call 14
            have hMd := hM.up hf
            refine (prm_lw hMd.l x.n _ x.v (by unfold maxLen; omega) (HAT.out.vot.inG hMd.l)).mono ?_
            rintro e w4 ⟨rfl, G4, hL4, hX4, hf4⟩
            have hM4 := hMd.next hL4 hX4 hf4
            have hat4 := HAT.out.up hL4.fr (fun _ h => h)
            have hS4 := And.intro hat4.c1 hat4.c4))
        | fail
      clear q1 q4 hS4 hL4 hX4 hf4 hMd hM hf
      by_cases hE : ¬ prmE p x.n x.v = 0
      · rw [prmP_no (.inl hE)] at hM4
        obtain ⟨E, hEe⟩ : ∃ E, E = prmE p x.n x.v := ⟨_, rfl⟩
        rw [← hEe] at hE ⊢
        have hE' : (E == 0) = false := by simp [hE]
        clear hEe hE hat4
        go_wp2_with fail
        go_roundg (l.length - (j + 1))
        case measure => have := HJ.out; omega
        case rel => exact ⟨j + 1, cc + x.v.length, S, va, vc, L, vs, p, G4, by have := HJ.out; omega, by go_num, rfl, by omega, by omega, by omega, HS.out, hM4⟩
      have hE0 : prmE p x.n x.v = 0 := by omega
      have hnd := prmE_node hE0
      rw [HS.out.q] at hnd
      obtain ⟨y, hyy⟩ : ∃ y, y = x.n.toNat := ⟨_, rfl⟩
      have hy : x.n = (y : Int) := by omega
      have hx12 : x.n < 12 := hnd.2
      have hy12 : y < 12 := by omega
      have hx0 : 0 ≤ x.n := hnd.1
      have q1 := hat4.c1
      have t1 := hM4.t.cell y (tolds_get S y hy12)
      have tf := hM4.t.frozen y
      rw [hE0]
      rw [hyy] at t1 tf
      have HE0 := Lib.hid hE0
      have HY := Lib.hid hy
      have HYY := Lib.hid hyy
      clear hE hnd hE0 hy hyy hat4
      cases hb : S.testBit y with
      | true =>
        rw [← HYY.out, hb, HYY.out] at t1
        rw [prmP_no (.inr (by rw [HS.out.s, HY.out]; exact hb))] at hM4
        clear hb
        go_wp2_with fail
        go_roundg (l.length - (j + 1))
        case measure => have := HJ.out; omega
        case rel => exact ⟨j + 1, cc + x.v.length, S, va, vc, L, vs, p, G4, by have := HJ.out; omega, by go_num, rfl, by omega, by omega, by omega, HS.out, hM4⟩
      | false =>
        rw [← HYY.out, hb, HYY.out] at t1
        have HS4 := Lib.hid (HS.out.prm HY.out HE0.out hb)
        obtain ⟨w5, hw5⟩ : ∃ w5, w5 = w4.setCell ⟨bt, x.n.toNat, none⟩ (.bool true) := ⟨_, rfl⟩
        have hM5 : MuR W w5 r bt b7 (prmP p x.n x.v) (cc + x.v.length) (S ||| 2 ^ y) (.slice va L.length vc) L vs G4 := by
          rw [hw5, ← HYY.out]
          exact hM4.mark HLo.out hy12 _ rfl
        have hlo5 : W.heap.size ≤ w5.heap.size := hM5.l.fr.size
        generalize prmP p x.n x.v = p4 at hM5 HS4
        obtain ⟨c4, hc4⟩ : ∃ c4, c4 = cc + x.v.length := ⟨_, rfl⟩
        rw [← hc4] at hM5
        have hcc4 : c4 ≤ 4000 * (j + 1) := by omega
        have HW5 := Lib.hid hw5
        clear hb hc4 HS hM4 HE0 hw5
        go_wp2_with fail
        rw [← HW5.out]
        clear HW5 t1 tf
        go_loopg [10, 14] x.v.length (fun g x10 x14 wr => ∃ (k : Nat) (va : Option Addr) (vc : Nat) (L' : List Vt) (vs' : List Value), k + g = x.v.length ∧ x14 = .int .i64 k ∧ x10 = .slice va L'.length vc ∧ L' = L ++ selV slot (x.v.take k) ∧ MuR W wr r bt b7 p4 c4 (S ||| 2 ^ y) (.slice va L'.length vc) L' vs' G4)
        case atStart => exact ⟨0, va, vc, L, vs, by omega, rfl, rfl, by simp [selV], hM5⟩
        case round =>
          clear hM5 hlo5 q1
          obtain ⟨k, va, vc, L', vs, hk, rfl, rfl, hL', hM⟩ := hrel
          have HK := Lib.hid hk
          have HL' := Lib.hid hL'
          have hk' : k ≤ x.v.length := by omega
          have hLl' : L'.length ≤ 4000 * j + 4000 := by
            rw [hL', List.length_append]
            have := selV_len slot x.v k
            omega
          have hat' := HAT.out.up hM.l.fr (fun _ h => h)
          have q4 := hat'.c4
          have hv1 := HAT.out.vot
          obtain ⟨⟨Av', cv', e1, hv1⟩, -⟩ := hv1
          injection e1 with e1 _ e2
          subst e1 e2
          clear hk hat' hL'
          by_cases hkl : k < x.v.length
          · obtain ⟨z, hz⟩ : ∃ z, x.v[k]? = some z := ⟨_, List.getElem?_eq_getElem hkl⟩
            obtain ⟨bz, oz, sz, rfl, hnz, hzt, hnz2⟩ := hv1 k z hz
            have hzt' := hzt.fr hM.l.fr hnz hnz2
            have hbyt := Lib.hid hzt.by_
            have hzl := hzt.l
            have hzb := hzt.by_
            obtain ⟨Az, cz, rfl, -, -⟩ := hzb
            have z0 := hzt'.c0
            have z1 := hzt'.c1
            have z2 := hzt'.c2
            have z3 := hzt'.c3
            have HZ := Lib.hid hz
            clear hzt hzt' hnz hnz2 hz hv1
            by_cases hzs : z.s = slot
            · have hzs' : ((z.s : Int) == (slot : Int)) = true := by simp [hzs]
              have HZS := Lib.hid hzs
              obtain ⟨w6, hw6⟩ : ∃ w6, w6 = wr.alloc (.cells #[.int .u64 z.s, .int .u64 z.n, .int .i64 z.d, .slice Az z.v.length cz] 45) := ⟨_, rfl⟩
              have hM6 := hM.up (show Fr (fun _ => False) wr w6 by rw [hw6]; exact (Fr.refl _ wr).alloc _)
              have hn6 : ∀ j u, [Value.int .u64 z.s, .int .u64 z.n, .int .i64 z.d, .slice Az z.v.length cz][j]? = some u → w6.cell? (Addr.add ⟨wr.heap.size, 0, none⟩ j) = some u := by
                rw [hw6]; exact World.news_of_block (cs := #[.int .u64 z.s, .int .u64 z.n, .int .i64 z.d, .slice Az z.v.length cz]) (t := 45) (fr := (0, 0)) (heap_alloc_new wr _)
              have HW6 := Lib.hid hw6
              have hrow := hM6.s.row
              have hz6 := hM6.l.fr.size
              have HM6 := Lib.hid hM6
              clear hw6 hM6 hM hzs
              go_wp2_with (first
                | (at_builtin
                   rw [← HW6.out]
                   clear HW6
                   refine wpList_bi2 rfl .append _ _ _ _ _ rfl rfl rfl _ (ap_cells (base := W.heap.size) Try.underlying29 hi0 hz0 hz1 hz2 rfl (by omega) hrow ⟨wr.heap.size, 0, none⟩ 1 1 [.int .u64 z.s, .int .u64 z.n, .int .i64 z.d, .slice Az z.v.length cz] rfl hn6 (by simp [Value.oneCell']) (by unfold maxLen; omega) (by omega) hz6) ?_
                   rintro v' w7 hap))
              have hM7 := HM6.out.more hbyt.out hap
              obtain ⟨va', vc', rfl⟩ := hM7.s.form
              rw [List.length_append, List.length_singleton] at hM7 ⊢
              go_roundg (x.v.length - (k + 1))
              case measure => have := HK.out; omega
              case rel => exact ⟨k + 1, va', vc', L' ++ [z], _, by have := HK.out; omega, by go_num, by simp, by rw [selV_take_yes HZ.out HZS.out, HL'.out, List.append_assoc], by simpa using hM7⟩
            · have hzs' : ((z.s : Int) == (slot : Int)) = false := by simp; omega
              have HZS := Lib.hid hzs
              clear hzs
              go_wp2_with fail
              go_roundg (x.v.length - (k + 1))
              case measure => have := HK.out; omega
              case rel => exact ⟨k + 1, va, vc, L', vs, by have := HK.out; omega, by go_num, rfl, by rw [selV_take_no HZ.out HZS.out]; exact HL'.out, hM⟩
          · obtain rfl : k = x.v.length := by omega
            go_wp2_with fail
            go_roundg (l.length - (j + 1))
            case measure => have := HJ.out; omega
            case rel => exact ⟨j + 1, c4, S ||| 2 ^ y, va, vc, L', vs, p4, G4, by have := HJ.out; omega, by go_num, rfl, by omega, by omega, by omega, by have := HL'.out; rw [List.take_length] at this; rw [this]; exact HS4.out, hM⟩
    -- the tail (gen_pmw.py)
    · have hcs : (j < l.length ∧ ¬ (j : Int) < 30) ∨ ¬ (j < l.length) := by omega
      have hrow := hM.s.row
      rcases hcs with ⟨ha, hb⟩ | ha
      all_goals
        go_wp2_with fail
        refine (must_any r p _ _ slot hs64 wr hM.l.pr).mono ?_
        rintro e w2 ⟨va2, vc2, rfl, ho2, hf2⟩
        have hM2 := hM.up hf2
        have hnw0 := fun j hj => hM.l.not_new ((ho2.lt j hj).1)
        have ho2 := own_base ho2
        have hLL : L.length ≤ 120000 := by omega
        have hc12 : cc ≤ 120000 := by omega
        clear hf2 hM hcc hLl hj' ha hlt hrow
        cases hmu : p.mu slot with
        | none =>
          have hL0 : L.length = 0 := by
            have := HS.out.mu.len
            rw [hmu] at this
            simpa using this
          have hb0 : muB p slot = none := by unfold muB; rw [hmu]; rfl
          have HB0 := Lib.hid hb0
          rw [hb0] at ho2 ⊢
          simp only [Option.getD_none, Option.isSome_none, List.length_nil] at ho2 ⊢
          have hL0' : ¬ (0 : Int) < (L.length : Int) := by omega
          have hL0n : ¬ 0 < L.length := by omega
          clear hmu hb0
          go_wp2_with fail
          go_loopg [17, 18] 0 (fun g x17 x18 wr => x17 = .bool true ∧ x18 = .int .i64 0 ∧ MuR W wr r bt b7 p cc S (.slice va L.length vc) L vs G)
          case atStart => exact ⟨rfl, rfl, hM2⟩
          case round =>
            clear hM2
            obtain ⟨rfl, rfl, hM3⟩ := hrel
            go_wp2_with fail
            refine (ready_any r p _ _ wr hM3.l.pr).mono ?_
            rintro e w5 ⟨rfl, hf5⟩
            have hM5 := hM3.up hf5
            have hdum := True.intro
            clear hM3 hf5
            cases hr : readyB p with
            | false =>
              have HR := Lib.hid hr
              clear hr
              go_wp2_with fail
              refine (known_any w5).mono ?_
              rintro e w6 ⟨rfl, hf6⟩
              go_wp2_with fail
              go_ret
              exact ⟨rfl, hM5.end_ hf6⟩
            | true =>
              obtain ⟨e1, e2⟩ := HS.out.pro hM5.l.pr.wf hsl1 hr own ho100
              rw [HB0.out] at e2
              rw [Option.getD_none] at e2
              clear hr
              go_wp2_with fail
              refine (pro_lw hM5.l slot hs64 _ own (by unfold maxLen; omega) (HO.out.inW hM5.l)).mono ?_
              rintro e w6 ⟨va6, vc6, G6, rfl, ho6, hL6, hX6, hn6, hf6⟩
              rw [e2] at ho6 hn6
              rw [e1, e2]
              have hM6 := hM5.next hL6 hX6 hf6
              have hdum2 := True.intro
              clear e1 e2 hL6 hX6 hf6 hM5 hn6
              simp only [vtV] at ho6 ⊢
              obtain ⟨w7, hw7⟩ : ∃ w7, w7 = w6.alloc (.cells #[.int .u64 slot, .int .u64 (topN : Nat), .int .i64 11, .slice va6 own.length vc6] 45) := ⟨_, rfl⟩
              have hf7 : Fr (fun _ => False) w6 w7 := by rw [hw7]; exact (Fr.refl _ w6).alloc _
              obtain ⟨bx, hbx⟩ : ∃ b, b = w6.heap.size := ⟨_, rfl⟩
              have hB7 : Blk w7 bx 45 #[.int .u64 slot, .int .u64 (topN : Nat), .int .i64 11, .slice va6 own.length vc6] := by rw [hw7, hbx]; exact Blk.new _ _ _
              have hM7 := hM6.up hf7
              have ho7 := Byt.of_own (own_fr ho6 hf7 (fun _ _ h => h))
              have hwant := HO.out.inW hM7.l
              have HW7 := Lib.hid hw7
              have HBX := Lib.hid hbx
              clear hw7 hf7 hbx ho6 hM6 hdum
              go_upto_region 36 with (fail)
              rw [← HW7.out, ← HBX.out]
              clear HW7 HBX
              have c0 := hB7.cell 0 rfl
              have c1 := hB7.cell 1 rfl
              have c2 := hB7.cell 2 rfl
              have c3 := hB7.cell 3 rfl
              have d0 := hM7.b.cell 0 rfl
              have d1 := hM7.b.cell 1 rfl
              go_wp2_with fail
              refine (same_any _ _ own own w7 ho7 hwant).mono ?_
              rintro e w8 ⟨rfl, rfl⟩
              rw [decide_eq_true rfl]
              go_wp2_with fail
              refine (known_any w7).mono ?_
              rintro e w9 ⟨rfl, hf9⟩
              go_wp2_with fail
              go_ret
              exact ⟨rfl, hM7.end_ hf9⟩
        | some y =>
          obtain ⟨m, nd⟩ := y
          have hmm := HS.out.mu
          rw [hmu] at hmm
          have hL0 : 0 < L.length := by
            have := hmm.len
            simpa using this
          have HF := Lib.hid hmm.found
          have hb0 : muB p slot = some m.v := by unfold muB; rw [hmu]; rfl
          have hml : m.v.length ≤ 100 := (hM2.l.pr.wf.mu slot m nd hmu).2.2
          have HB0 := Lib.hid hb0
          rw [hb0] at ho2 hnw0 ⊢
          simp only [Option.getD_some, Option.isSome_some] at ho2 hnw0 ⊢
          have hL0' : (0 : Int) < (L.length : Int) := by omega
          have hL63 : (L.length : Int) ≤ 9223372036854775807 := by omega
          clear hmu hb0 hmm
          have hnw : ∀ j, (Value.slice va2 m.v.length vc2).ownBlock = some j → ¬ G j := hnw0
          clear hnw0
          go_wp2_with fail
          go_loopg [17, 18] L.length (fun g x17 x18 wr => ∃ (i : Nat) (fb : Bool), i + g = L.length ∧ x17 = .bool fb ∧ x18 = .int .i64 i ∧ fb = (L.take i).any (bestB m.v L) ∧ MuR W wr r bt b7 p cc S (.slice va L.length vc) L vs G ∧ wr.ownsRow 0 5 1 (.slice va2 m.v.length vc2) m.v.length (u8s m.v))
          case atStart => exact ⟨0, false, by omega, rfl, rfl, rfl, hM2, ho2⟩
          case round =>
            clear hM2 ho2
            obtain ⟨i, fb, hi, rfl, rfl, hfb, hM2, ho2⟩ := hrel
            have HI := Lib.hid hi
            have HFB := Lib.hid hfb
            have hi' : i ≤ L.length := by omega
            clear hi hfb
            by_cases hil : i < L.length
            · obtain ⟨a, ha⟩ : ∃ a, L[i]? = some a := ⟨_, List.getElem?_eq_getElem hil⟩
              obtain ⟨ga, ca, ua, e1, hua, -, -, -, a3⟩ := hM2.s.at ha
              injection e1 with e1 _ e2
              subst e1 e2
              have hua' := hua.inW hM2.l
              have kc1 := fun n => run_str (P := Try.prog) (w := wr.drewN n) (src := 35) (dst := 9) Try.underlying35 Try.underlying5 Try.underlying9 (hua'.drewN n)
              have kc2 := fun n => run_str (P := Try.prog) (w := wr.drewN n) (src := 35) (dst := 9) Try.underlying35 Try.underlying5 Try.underlying9 ((Byt.of_own ho2).drewN n)
              have hii0 : (0 : Int) ≤ (i : Int) := by omega
              have hii1 : (i : Int) < (L.length : Int) := by omega
              have HA := Lib.hid ha
              obtain ⟨b0, hb0⟩ : ∃ b0, b0 = decide (a.v = m.v) := ⟨_, rfl⟩
              have HB := Lib.hid hb0
              have HM2 := Lib.hid (And.intro hM2 ho2)
              obtain ⟨S1, hS1⟩ : ∃ S1, S1 = strOf a.v := ⟨_, rfl⟩
              obtain ⟨S2, hS2⟩ : ∃ S2, S2 = strOf m.v := ⟨_, rfl⟩
              have hss : (S1.toList == S2.toList) = b0 := by
                rw [hS1, hS2, hb0]
                by_cases h : a.v = m.v
                · rw [h, decide_eq_true rfl]; simp
                · rw [str_tl h, decide_eq_false h]
              rw [← hS1] at kc1
              rw [← hS2] at kc2
              clear ha hua hua' hb0 hS1 hS2 hM2 ho2
              go_upto_region 27 with (fail)
              go_quiet (fail)
              clear kc1 kc2 hss a3 hii0
              have hf3 := (Fr.refl (fun _ => False) wr).drewN nq
              have hM3 := HM2.out.1.up hf3
              have ho3 := own_fr HM2.out.2 hf3 (fun _ _ h => h)
              generalize wr.drewN nq = w3 at hM3 ho3 ⊢
              clear hf3 HM2
              go_wp2_with fail
              go_loopg [19, 20] L.length (fun g x19 x20 wr => ∃ (k : Nat) (bb : Bool), k + g = L.length ∧ x20 = .int .i64 k ∧ x19 = .bool bb ∧ bb = (decide (a.v = m.v) && (L.take k).all fun b => !lessB a.n a.d b.n b.d) ∧ MuR W wr r bt b7 p cc S (.slice (some ⟨ga, 0, none⟩) L.length vc) L vs G ∧ wr.ownsRow 0 5 1 (.slice va2 m.v.length vc2) m.v.length (u8s m.v))
              case atStart => exact ⟨0, b0, by omega, rfl, rfl, by rw [HB.out]; simp, hM3, ho3⟩
              case round =>
                clear hM3 ho3 HB
                obtain ⟨k, bb, hk, rfl, rfl, hbb, hM3, ho3⟩ := hrel
                have HK := Lib.hid hk
                have HBB := Lib.hid hbb
                have hk' : k ≤ L.length := by omega
                clear hk hbb
                by_cases hkl : k < L.length
                · obtain ⟨z, hz⟩ : ∃ z, L[k]? = some z := ⟨_, List.getElem?_eq_getElem hkl⟩
                  obtain ⟨gz, cz, uz, e1, -, -, z1, z2, -⟩ := hM3.s.at hz
                  injection e1 with e1 _ e2
                  injection e1 with e1
                  injection e1 with e1
                  subst e1 e2
                  obtain ⟨gz, cz, uz, e1, -, -, a1, a2, -⟩ := hM3.s.at HA.out
                  injection e1 with e1 _ e2
                  injection e1 with e1
                  injection e1 with e1
                  subst e1 e2
                  have hkk0 : (0 : Int) ≤ (k : Int) := by omega
                  have hkk1 : (k : Int) < (L.length : Int) := by omega
                  have hii0 : (0 : Int) ≤ (i : Int) := by omega
                  have HZ := Lib.hid hz
                  clear hz
                  cases bb with
                  | false =>
                    go_upto_region 31 with (fail)
                    go_quiet (fail)
                    have hf4 := (Fr.refl (fun _ => False) wr).drewN nq
                    have hM4 := hM3.up hf4
                    have ho4 := own_fr ho3 hf4 (fun _ _ h => h)
                    clear hM3 ho3 hf4 a1 a2 z1 z2
                    go_wp2_with fail
                    go_roundg (L.length - (k + 1))
                    case measure => have := HK.out; omega
                    case rel => exact ⟨k + 1, false, by have := HK.out; omega, by go_num, rfl, by rw [List.take_add_one, HZ.out, List.all_append, ← Bool.and_assoc, ← HBB.out]; rfl, hM4, ho4⟩
                  | true =>
                    have hf := (Fr.refl (fun _ => False) wr).drew
                    go_upto_region 31 with (fail)
                    first
                      | go_region_held3 (fun wx => wx.cell? ⟨ga, i * 4 + 1, none⟩ = some (.int .u64 a.n) ∧ wx.cell? ⟨ga, i * 4 + 2, none⟩ = some (.int .i64 a.d) ∧ wx.cell? ⟨ga, k * 4 + 1, none⟩ = some (.int .u64 z.n) ∧ wx.cell? ⟨ga, k * 4 + 2, none⟩ = some (.int .i64 z.d)) (first | exact ⟨a1, a2, z1, z2⟩ | exact hS4)
                        ((go_at_call 17
                          refine (rless_any a.n a.d z.n z.d _).mono ?_
                          rintro e w4 ⟨rfl, hf4⟩
                          replace hf := hf.tr hf4
                          have hS4 := And.intro (hf.cell a1 (fun h => h)) (And.intro (hf.cell a2 (fun h => h)) (And.intro (hf.cell z1 (fun h => h)) (hf.cell z2 (fun h => h))))))
                      | fail
                    all_goals
                      have hM4 := hM3.up hf
                      have ho4 := own_fr ho3 hf (fun _ _ h => h)
                      clear hM3 ho3 hf hS4 a1 a2 z1 z2
                      go_wp2_with fail
                      go_roundg (L.length - (k + 1))
                      case measure => have := HK.out; omega
                      case rel => exact ⟨k + 1, !lessB a.n a.d z.n z.d, by have := HK.out; omega, by go_num, rfl, by rw [List.take_add_one, HZ.out, List.all_append, ← Bool.and_assoc, ← HBB.out]; simp, hM4, ho4⟩
                · obtain rfl : k = L.length := by omega
                  have hbe : bb = bestB m.v L a := by rw [HBB.out, List.take_length]; rfl
                  have HBE := Lib.hid hbe
                  clear hbe
                  cases fb with
                  | true =>
                    go_wp2_with fail
                    go_roundg (L.length - (i + 1))
                    case measure => have := HI.out; omega
                    case rel => exact ⟨i + 1, true, by have := HI.out; omega, rfl, by go_num, by rw [List.take_add_one, HA.out, List.any_append, ← HFB.out]; rfl, hM3, ho3⟩
                  | false =>
                    go_wp2_with fail
                    go_roundg (L.length - (i + 1))
                    case measure => have := HI.out; omega
                    case rel => exact ⟨i + 1, bb, by have := HI.out; omega, rfl, by go_num, by rw [List.take_add_one, HA.out, List.any_append, ← HFB.out, HBE.out]; simp, hM3, ho3⟩
            · obtain rfl : i = L.length := by omega
              obtain rfl : fb = true := by have := HFB.out; rw [List.take_length, HF.out] at this; exact this
              have hM3 := hM2
              have hnwo := hnw
              go_wp2_with fail
              refine (ready_any r p _ _ wr hM3.l.pr).mono ?_
              rintro e w5 ⟨rfl, hf5⟩
              have hM5 := hM3.up hf5
              have ho5 := own_fr ho2 hf5 (fun _ _ h => h)
              clear hM3 hf5
              cases hr : readyB p with
              | false =>
                have HR := Lib.hid hr
                clear hr
                go_wp2_with fail
                refine (known_any w5).mono ?_
                rintro e w6 ⟨rfl, hf6⟩
                go_wp2_with fail
                go_ret
                exact ⟨rfl, hM5.end_ hf6⟩
              | true =>
                obtain ⟨e1, e2⟩ := HS.out.pro hM5.l.pr.wf hsl1 hr own ho100
                rw [HB0.out] at e2
                rw [Option.getD_some] at e2
                clear hr
                go_wp2_with fail
                refine (pro_lw hM5.l slot hs64 _ own (by unfold maxLen; omega) (HO.out.inW hM5.l)).mono ?_
                rintro e w6 ⟨va6, vc6, G6, rfl, ho6, hL6, hX6, hn6, hf6⟩
                rw [e2] at ho6 hn6
                rw [e1, e2]
                have hM6 := hM5.next hL6 hX6 hf6
                have hwo6 := own_fr ho5 hf6 hnw
                clear e1 e2 hL6 hX6 hf6 hM5 hn6
                simp only [vtV] at ho6 ⊢
                obtain ⟨w7, hw7⟩ : ∃ w7, w7 = w6.alloc (.cells #[.int .u64 slot, .int .u64 (topN : Nat), .int .i64 11, .slice va6 m.v.length vc6] 45) := ⟨_, rfl⟩
                have hf7 : Fr (fun _ => False) w6 w7 := by rw [hw7]; exact (Fr.refl _ w6).alloc _
                obtain ⟨bx, hbx⟩ : ∃ b, b = w6.heap.size := ⟨_, rfl⟩
                have hB7 : Blk w7 bx 45 #[.int .u64 slot, .int .u64 (topN : Nat), .int .i64 11, .slice va6 m.v.length vc6] := by rw [hw7, hbx]; exact Blk.new _ _ _
                have hM7 := hM6.up hf7
                have ho7 := Byt.of_own (own_fr ho6 hf7 (fun _ _ h => h))
                have hwant := Byt.of_own (own_fr hwo6 hf7 (fun _ _ h => h))
                have HW7 := Lib.hid hw7
                have HBX := Lib.hid hbx
                clear hw7 hf7 hbx ho6 hM6 hwo6
                go_upto_region 36 with (fail)
                rw [← HW7.out, ← HBX.out]
                clear HW7 HBX
                have c0 := hB7.cell 0 rfl
                have c1 := hB7.cell 1 rfl
                have c2 := hB7.cell 2 rfl
                have c3 := hB7.cell 3 rfl
                have d0 := hM7.b.cell 0 rfl
                have d1 := hM7.b.cell 1 rfl
                go_wp2_with fail
                refine (same_any _ _ m.v m.v w7 ho7 hwant).mono ?_
                rintro e w8 ⟨rfl, rfl⟩
                rw [decide_eq_true rfl]
                go_wp2_with fail
                refine (known_any w7).mono ?_
                rintro e w9 ⟨rfl, hf9⟩
                go_wp2_with fail
                go_ret
                exact ⟨rfl, hM7.end_ hf9⟩
end Go.Proofs.Ytliljjlegofmkaa
