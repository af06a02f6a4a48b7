/- The walk of play, kind by kind. -/
import Derived.Test.YtliljjlegofmkaaPRm
import Derived.Test.YtliljjlegofmkaaPSm
namespace Go.Proofs.Ytliljjlegofmkaa
open Go.RowKit

/-- What there is room for behind m acts. -/
def Bd (c : Nat) (st : Rs) (m : Nat) : Prop := c ≤ 5000 * m ∧ st.S.length ≤ m ∧ st.M.length ≤ m
def PlayPost (W : World) (r rr m : Nat) (e : Ending) (w' : World) : Prop :=
  e = .returned (.bool true) ∧ ∃ p st c G F, Tw W w' r rr p st c G F ∧ Rel p st ∧ Bd c st m
theorem proV_ok {p : Ps} (hw : Wf p) (k : Nat) (hk : k < 18446744073709551616) (own : List UInt8) : VtOk (proV p k own) := by
  unfold proV
  by_cases hE : proE p k own = 0
  · rw [if_pos hE]
    cases hs : p.sl k with
    | some z =>
      obtain ⟨v, X⟩ := z
      obtain ⟨h1, h2, h3, h4, h5, h6, h7⟩ := hw.sl k v X hs
      exact wf_vtok hw (V := v) (by omega) h6 h7 h3
    | none =>
      refine wf_vtok hw hk rfl rfl ?_
      unfold proE at hE
      rw [hs] at hE
      simp only at hE
      show (proVal p k own).length ≤ 100
      split at hE
      · split at hE
        · omega
        · split at hE
          · omega
          · omega
      · omega
  · rw [if_neg hE]
    exact ⟨by decide, by decide, by decide, by decide, by decide⟩
theorem rproS_len (st : Rs) (k : Nat) (own : List UInt8) (o : Option (Vt × Nat)) : (rproS st k own o).S.length ≤ st.S.length + 1 ∧ (rproS st k own o).M = st.M := by
  unfold rproS
  split
  · split
    · exact ⟨by omega, rfl⟩
    · exact ⟨by simp, rfl⟩
  · exact ⟨by omega, rfl⟩
theorem raccS_len (st : Rs) (x : Int) (k : Nat) : (raccS st x k).M.length ≤ st.M.length + 1 ∧ (raccS st x k).S = st.S := by
  unfold raccS
  split
  · exact ⟨by simp, rfl⟩
  · exact ⟨by omega, rfl⟩
theorem rprmS_len (st : Rs) (x : Int) (l : List Vt) : (rprmS st x l).M = st.M ∧ (rprmS st x l).S = st.S := by
  unfold rprmS
  split
  · exact ⟨rfl, rfl⟩
  · exact ⟨rfl, rfl⟩
section
variable {W w w' : World} {r rr c : Nat} {p : Ps} {st : Rs} {G F : Nat → Prop}
/-- A new block beside both. -/
theorem Tw.new (h : Tw W w r rr p st c G F) (cs : Array Value) (t : TypeId) : ∃ w1 q, w1 = w.alloc (.cells cs t) ∧ q = w.heap.size ∧ Blk w1 q t cs ∧ Tw W w1 r rr p st c G F ∧ ¬ G q ∧ ¬ F q ∧ W.heap.size ≤ q ∧ Fr (fun _ => False) w w1 :=
  ⟨_, _, rfl, rfl, Blk.new _ _ _, h.up ((Fr.refl _ w).alloc _), fun hx => by have := h.l.lo _ hx; omega, fun hx => by have := h.fl _ hx; omega, h.l.fr.size, (Fr.refl _ w).alloc _⟩
end
theorem VtL.wide {w : World} {v : Value} {l : List Vt} {X : Nat → Prop} (h : VtL w v l X) : VtL w v l (fun _ => False) := h.mono (fun _ h => h.elim)

section
variable (W w : World) (r rr c m : Nat) (p : Ps) (st : Rs) (G F : Nat → Prop) (x : At) (os vs : Value)
  (h : Tw W w r rr p st c G F) (hrel : Rel p st) (hbd : Bd c st m) (hm : m ≤ 60) (hs64 : x.s < 18446744073709551616) (hos : Byt W os x.o) (hvs : VtL W vs x.v (fun k => W.heap.size ≤ k)) (hsh : ShortA x)
include h hrel hbd hm hs64 hos hvs hsh
omit hs64 in
set_option maxRecDepth 100000 in
set_option maxHeartbeats 16000000 in
theorem play_prm0 :
    Calls Try.prog 27 #[.pointer (some ⟨r, 0, none⟩), .pointer (some ⟨rr, 0, none⟩), .agg #[.int .i64 0, .int .i64 x.n, .int .u64 x.s, os, vs]] w (PlayPost W r rr (m + 1)) := by
  obtain ⟨hb1, hb2, hb3⟩ := hbd
  obtain ⟨hl1, hl2, hl3⟩ := hsh
  have HOS := Lib.hid hos
  have HVS := Lib.hid hvs
  have HRel := Lib.hid hrel
  have HL3 := Lib.hid hl3
  obtain ⟨sa, sc, rfl, -, -⟩ := hos
  obtain ⟨⟨A, vc, rfl, hve⟩, -⟩ := hvs
  have HVE := Lib.hid hve
  clear hve hrel hl3
  obtain ⟨w1, q, hw1, hq, hq1, T1, ng1, nf1, lo1, hf1⟩ := h.new #[.int .i64 0, .int .i64 x.n, .int .u64 x.s, .slice sa x.o.length sc, .slice A x.v.length vc] 58
  have HW1 := Lib.hid hw1
  have HQ := Lib.hid hq
  have c0 := hq1.cell 0 rfl
  have c1 := hq1.cell 1 rfl
  have c2 := hq1.cell 2 rfl
  have c3 := hq1.cell 3 rfl
  have c4 := hq1.cell 4 rfl
  clear hw1 hq h hf1
  go_enter Try.func27, Try.ntmps27
  go_upto_region 1 with (fail)
  rw [← HW1.out, ← HQ.out]
  clear HW1 HQ
  go_wp2_with fail
  refine (lent_votes _ x.v _ w1 (HVS.out.fr T1.l.fr) (by omega) (fun y hy => by have := HL3.out y hy; omega)).mono ?_
  rintro e w2 ⟨va, vcc, gs, rfl, hL2⟩
  have hf2 := hL2.cop.fr
  have T2 := T1.up hf2
  have hq2 := hq1.fr hf2 (fun h => h)
  have hlo1 : ∀ j, G j → j < w1.heap.size := fun j hj => (T1.l.lo j hj).2
  have hfo1 : ∀ j, F j → j < w1.heap.size := fun j hj => (T1.fl j hj).2
  have hvn : ∀ y ∈ x.v, VtN y := fun y hy => by
    obtain ⟨i, hi⟩ := List.getElem?_of_mem hy
    obtain ⟨b, off, s, -, -, hat, -⟩ := HVE.out i y hi
    exact ⟨hat.s64, hat.n64, hat.d0, hat.d1, hat.l⟩
  have hvl : VtL w2 (.slice va x.v.length vcc) x.v G := (hL2.cop.vtl hvn (by unfold maxLen; omega)).mono (fun k hk => .inl (hlo1 k hk))
  have d1 := hq2.cell 1 rfl
  have hW1 := T1.l.fr.size
  clear c0 c1 c2 c3 c4 hf2 T1 hq1 hvn
  go_wp2_with fail
  refine (prm_lw T2.l x.n _ x.v (by unfold maxLen; omega) hvl).mono ?_
  rintro e w3 ⟨rfl, G3, hl3, hn3, hf3⟩
  have T3 := T2.prog hl3 hn3 hf3
  have hq3 := hq2.fr hf3 ng1
  have ng3 := Nx.keep hn3 ng1 hq2.lt
  have hng : ∀ (i : Nat) (g : Nat × Nat), gs[i]? = some g → ¬ G3 g.1 ∧ w1.heap.size ≤ g.1 ∧ g.1 < w2.heap.size := fun i g hg => by
    have hi : i < x.v.length := by rw [← hL2.len]; exact (List.getElem?_eq_some_iff.1 hg).1
    have h1 := (hL2.val i x.v[i] g (List.getElem?_eq_getElem hi) hg).2
    have h2 := hL2.lt hg
    exact ⟨Nx.keep hn3 (fun hG => by have := hlo1 _ hG; omega) h2, h1, h2⟩
  have hrow3 := own_fr hL2.cop.row hf3 (fun k hk hG => by have := hlo1 k hG; have := (hL2.cop.row.lt k hk).1; omega)
  have hmk3 : ∀ (i : Nat) (y : Vt) (g : Nat × Nat), x.v[i]? = some y → gs[i]? = some g → Marks w3 g.1 g.2 y.v := fun i y g hy hg =>
    (hL2.val i y g hy hg).1.fr hf3 (fun hG => by have := hlo1 _ hG; have := (hng i g hg).2.1; omega)
  have d1 := hq3.cell 1 rfl
  have d4 := hq3.cell 4 rfl
  have hsz23 := hf3.size
  have hlen := hL2.len
  have hdist := hL2.dist
  have H3 := Lib.hid (And.intro hng (And.intro hrow3 (And.intro hmk3 (And.intro hlen (And.intro hdist (And.intro hlo1 hfo1))))))
  clear hl3 hn3 hf3 hvl hL2 hq2 T2 hng hrow3 hmk3 hlen hdist hlo1 hfo1
  go_wp2_with fail
  refine (rprm_any rr st F x.n _ x.v w3 T3.r (HVS.out.fr T3.l.fr).wide (by omega) (fun y hy => by have := HL3.out y hy; omega)).mono ?_
  rintro e w4 ⟨rfl, F4, hR4, hn4, hf4⟩
  rw [HRel.out.prmE]
  have T4 := T3.ref hR4 hn4 hf4
  have hrel4 := HRel.out.prm x.n x.v
  obtain ⟨hng, hrow3, hmk3, hlen, hdist, hlo1, hfo1⟩ := H3.out
  have hq4 := hq3.fr hf4 nf1
  have nf4 := Nx.keep hn4 nf1 hq3.lt
  have hnf : ∀ (i : Nat) (g : Nat × Nat), gs[i]? = some g → ¬ F4 g.1 := fun i g hg =>
    Nx.keep hn4 (fun hF => by have := hfo1 _ hF; have := (hng i g hg).2.1; omega) (by have := (hng i g hg).2.2; omega)
  have hrow4 := own_fr hrow3 hf4 (fun k hk hF => by have := hfo1 k hF; have := (hrow3.lt k hk).1; omega)
  have hmk4 : ∀ (i : Nat) (y : Vt) (g : Nat × Nat), x.v[i]? = some y → gs[i]? = some g → Marks w4 g.1 g.2 y.v := fun i y g hy hg =>
    (hmk3 i y g hy hg).fr hf4 (fun hF => by have := hfo1 _ hF; have := (hng i g hg).2.1; omega)
  obtain ⟨sl1, sl2⟩ := rprmS_len st x.n x.v
  have hbd4 : Bd (c + x.v.length) (rprmS st x.n x.v) (m + 1) := ⟨by omega, by rw [sl2]; omega, by rw [sl1]; omega⟩
  generalize prmP p x.n x.v = p4 at T4 hrel4
  generalize rprmS st x.n x.v = st4 at T4 hrel4 hbd4
  generalize c + x.v.length = cc4 at T4 hbd4
  have hEE : (prmE p x.n x.v == prmE p x.n x.v) = true := by simp
  generalize prmE p x.n x.v = E4 at hEE ⊢
  have HEE := Lib.hid hEE
  have HB4 := Lib.hid (And.intro hrel4 hbd4)
  have hI : Tw W w4 r rr p4 st4 cc4 G3 F4 ∧ Blk w4 q 58 #[.int .i64 0, .int .i64 x.n, .int .u64 x.s, .slice sa x.o.length sc, .slice A x.v.length vc] ∧
      w4.ownsRow w1.heap.size 45 4 (.slice va x.v.length vcc) x.v.length (flatV x.v (lrow x.v gs)) ∧ ∀ (i : Nat) (y : Vt) (g : Nat × Nat), 0 ≤ i → x.v[i]? = some y → gs[i]? = some g → Marks w4 g.1 g.2 y.v :=
    ⟨T4, hq4, hrow4, fun i y g _ => hmk4 i y g⟩
  have HNN := Lib.hid (And.intro hng hnf)
  have HD := Lib.hid (And.intro hlen hdist)
  clear hR4 hn4 hf4 hrel4 hng hrow3 hmk3 hlen hdist hlo1 hfo1 hq3 T3 d1 d4 hnf hrow4 hmk4 hbd4 hEE H3 T4 hq4 sl1 sl2
  go_wp2_with fail
  go_loopg [10] x.v.length (fun g x10 wr => ∃ (j : Nat), j + g = x.v.length ∧ x10 = .int .i64 j ∧ Tw W wr r rr p4 st4 cc4 G3 F4 ∧ Blk wr q 58 #[.int .i64 0, .int .i64 x.n, .int .u64 x.s, .slice sa x.o.length sc, .slice A x.v.length vc] ∧
      wr.ownsRow w1.heap.size 45 4 (.slice va x.v.length vcc) x.v.length (flatV x.v (lrow x.v gs)) ∧ ∀ (i : Nat) (y : Vt) (g : Nat × Nat), j ≤ i → x.v[i]? = some y → gs[i]? = some g → Marks wr g.1 g.2 y.v)
  case atStart => exact ⟨0, by omega, rfl, hI⟩
  case round =>
    clear hI w4
    obtain ⟨j, hj, rfl, T5, hq5, hrow5, hmk5⟩ := hrel
    have HJ := Lib.hid hj
    have hj' : j ≤ x.v.length := by omega
    clear hj
    by_cases hjl : j < x.v.length
    · obtain ⟨y, hy⟩ : ∃ y, x.v[j]? = some y := ⟨_, List.getElem?_eq_getElem hjl⟩
      obtain ⟨g, hg⟩ : ∃ g, gs[j]? = some g := ⟨_, List.getElem?_eq_getElem (by rw [HD.out.1]; exact hjl)⟩
      have hyl := HL3.out y (List.mem_of_getElem? hy)
      have hm5 := hmk5 j y g (Nat.le_refl _) hy hg
      obtain ⟨-, -, -, e4⟩ := flatV_get _ _ j _ _ hy (lrow_get hy hg)
      obtain ⟨gr, cr, hgr⟩ : ∃ gr cr, Value.slice va x.v.length vcc = .slice (some ⟨gr, 0, none⟩) x.v.length cr := by
        rcases own_form hrow5 with ⟨_, h0, _⟩ | ⟨g', cap', cur', h1, _⟩
        · omega
        · exact ⟨g', cap', h1⟩
      injection hgr with hg1 _ hg2
      subst hg1 hg2
      have k1 := own_cell (own_base hrow5) _ e4
      obtain ⟨b, off, s, e5, -, hat, -⟩ := HVE.out j y hy
      subst e5
      have hby := hat.by_.keep (Nat.le_refl _) T5.l.fr
      have hbw : b < W.heap.size := World.block_lt_of_cell? _ _ hat.c0
      have k2 := (hat.fr T5.l.fr (by omega) (fun g' h1 h2 => by
        obtain ⟨k', hk', hlt⟩ := hat.by_.lt h2
        rw [h1] at hk'; injection hk' with hk'; omega)).c3
      obtain ⟨sA, sC, rfl, -, -⟩ := hat.by_
      have d4 := hq5.cell 4 rfl
      have hd := (Fr.refl (fun _ => False) wr).drew
      have HMM := Lib.hid (And.intro hm5 (And.intro hrow5 (And.intro hmk5 (And.intro hy hg))))
      clear hat e4
      clear hmk5 hrow5 hy hg
      go_upto_region 10 with (fail)
      first
        | go_region_held3 (fun wx => wx.cell? ⟨q, 4, none⟩ = some (.slice (some ⟨b, off, none⟩) x.v.length vc) ∧ wx.cell? ⟨gr, j * 4 + 3, none⟩ = some (.slice (some ⟨g.1, 0, none⟩) y.v.length g.2) ∧ wx.cell? ⟨b, off + j * 4 + 3, none⟩ = some (.slice sA y.v.length sC)) (first | exact ⟨d4, k1, k2⟩ | exact hS4)
          ((go_at_call 46
            refine (whole_any g.1 g.2 _ y.v _ (hm5.fr hd (fun h => h)) (hby.fr hd (fun _ _ h => h)) (by omega)).mono ?_
            rintro e w5 ⟨rfl, rfl⟩
            have hS4 := And.intro (hd.cell d4 (fun h => h)) (And.intro (hd.cell k1 (fun h => h)) (hd.cell k2 (fun h => h)))))
        | fail
      all_goals
        obtain ⟨hm5, hrow5, hmk5, hy, hg⟩ := HMM.out
        have T6 := T5.up hd
        have hq6 := hq5.fr hd (fun h => h)
        have hrow6 := own_fr hrow5 hd (fun _ _ h => h)
        have hm6 := hm5.fr hd (fun h => h)
        have k1' := hd.cell k1 (fun h => h)
        generalize wr.drew = w6 at hd T6 hq6 hrow6 hm6 k1' ⊢
        have HM6 := Lib.hid (fun (i : Nat) (y : Vt) (g : Nat × Nat) (hij : j ≤ i) (h1 : x.v[i]? = some y) (h2 : gs[i]? = some g) => (hmk5 i y g hij h1 h2).fr hd (fun h => h))
        have HYG := Lib.hid (And.intro hy hg)
        clear hm5 hrow5 hmk5 hy hg HMM d4 k1 k2 T5 hq5 hd hby
        go_wp2_with fail
        refine (spoil_any _ y.v w6 hm6.own).mono ?_
        rintro e w7 ⟨rfl, hf7⟩
        obtain ⟨hy, hg⟩ := HYG.out
        have hgg := HNN.out.1 j g hg
        have hng' : ∀ k, (Value.slice (some ⟨g.1, 0, none⟩) y.v.length g.2).ownBlock = some k → k = g.1 := fun k hk => by simp only [Value.ownBlock] at hk; injection hk with hk; exact hk.symm
        have T7 := T6.off hf7 (fun k hk => by rw [hng' k hk]; exact ⟨hgg.1, HNN.out.2 j g hg, by have := hgg.2.1; omega⟩)
        have hq7 := hq6.fr hf7 (fun e => by
          have e := hng' _ e
          obtain ⟨cur, hc, _⟩ := hm6
          exact hc.ne_ hq6 (by decide) e.symm)
        have hrow7 := own_fr hrow6 hf7 (fun k hk e => by
          have e := hng' _ e
          obtain ⟨cur, hc, _⟩ := hm6
          exact own_blk_ne hrow6 hc (by decide) k hk e)
        have HM7 := Lib.hid (fun (i : Nat) (y' : Vt) (g' : Nat × Nat) (hij : j + 1 ≤ i) (h1 : x.v[i]? = some y') (h2 : gs[i]? = some g') => (HM6.out i y' g' (by omega) h1 h2).fr hf7 (fun e => by
          have e := hng' _ e
          obtain ⟨h3, h4⟩ := List.getElem?_eq_some_iff.1 hg
          obtain ⟨h5, h6⟩ := List.getElem?_eq_some_iff.1 h2
          have := List.pairwise_iff_getElem.1 HD.out.2 j i h3 h5 (by omega)
          rw [h4, h6] at this
          exact this e.symm))
        clear hf7 hng' hy hg hgg T6 hq6 hrow6 hm6 k1' HM6
        go_wp2_with fail
        go_roundg (x.v.length - (j + 1))
        case measure => have := HJ.out; omega
        case rel => exact ⟨j + 1, by have := HJ.out; omega, by go_num, T7, hq7, hrow7, HM7.out⟩
    · obtain rfl : j = x.v.length := by omega
      have hEE := HEE.out
      have HT := Lib.hid T5
      clear hmk5 hrow5 hq5 T5
      go_wp2_with fail
      go_ret
      exact ⟨rfl, _, _, _, _, _, HT.out, HB4.out⟩
omit hs64 in
set_option maxRecDepth 100000 in
set_option maxHeartbeats 16000000 in
theorem play_prm1 :
    Calls Try.prog 27 #[.pointer (some ⟨r, 0, none⟩), .pointer (some ⟨rr, 0, none⟩), .agg #[.int .i64 1, .int .i64 x.n, .int .u64 x.s, os, vs]] w (PlayPost W r rr (m + 1)) := by
  obtain ⟨hb1, hb2, hb3⟩ := hbd
  obtain ⟨hl1, hl2, hl3⟩ := hsh
  have HOS := Lib.hid hos
  have HVS := Lib.hid hvs
  have HRel := Lib.hid hrel
  have HL3 := Lib.hid hl3
  obtain ⟨sa, sc, rfl, -, -⟩ := hos
  obtain ⟨⟨A, vc, rfl, hve⟩, -⟩ := hvs
  have HVE := Lib.hid hve
  clear hve hrel hl3
  obtain ⟨w1, q, hw1, hq, hq1, T1, ng1, nf1, lo1, hf1⟩ := h.new #[.int .i64 1, .int .i64 x.n, .int .u64 x.s, .slice sa x.o.length sc, .slice A x.v.length vc] 58
  have HW1 := Lib.hid hw1
  have HQ := Lib.hid hq
  have c0 := hq1.cell 0 rfl
  have c1 := hq1.cell 1 rfl
  have c2 := hq1.cell 2 rfl
  have c3 := hq1.cell 3 rfl
  have c4 := hq1.cell 4 rfl
  clear hw1 hq h hf1
  go_enter Try.func27, Try.ntmps27
  go_upto_region 1 with (fail)
  rw [← HW1.out, ← HQ.out]
  clear HW1 HQ
  go_wp2_with fail
  refine (lent_votes _ x.v _ w1 (HVS.out.fr T1.l.fr) (by omega) (fun y hy => by have := HL3.out y hy; omega)).mono ?_
  rintro e w2 ⟨va, vcc, gs, rfl, hL2⟩
  have hf2 := hL2.cop.fr
  have T2 := T1.up hf2
  have hq2 := hq1.fr hf2 (fun h => h)
  have hlo1 : ∀ j, G j → j < w1.heap.size := fun j hj => (T1.l.lo j hj).2
  have hfo1 : ∀ j, F j → j < w1.heap.size := fun j hj => (T1.fl j hj).2
  have hvn : ∀ y ∈ x.v, VtN y := fun y hy => by
    obtain ⟨i, hi⟩ := List.getElem?_of_mem hy
    obtain ⟨b, off, s, -, -, hat, -⟩ := HVE.out i y hi
    exact ⟨hat.s64, hat.n64, hat.d0, hat.d1, hat.l⟩
  have hvl : VtL w2 (.slice va x.v.length vcc) x.v G := (hL2.cop.vtl hvn (by unfold maxLen; omega)).mono (fun k hk => .inl (hlo1 k hk))
  have d1 := hq2.cell 1 rfl
  have hW1 := T1.l.fr.size
  clear c0 c1 c2 c3 c4 hf2 T1 hq1 hvn
  go_wp2_with fail
  refine (prm_lw T2.l x.n _ x.v (by unfold maxLen; omega) hvl).mono ?_
  rintro e w3 ⟨rfl, G3, hl3, hn3, hf3⟩
  have T3 := T2.prog hl3 hn3 hf3
  have hq3 := hq2.fr hf3 ng1
  have ng3 := Nx.keep hn3 ng1 hq2.lt
  have hng : ∀ (i : Nat) (g : Nat × Nat), gs[i]? = some g → ¬ G3 g.1 ∧ w1.heap.size ≤ g.1 ∧ g.1 < w2.heap.size := fun i g hg => by
    have hi : i < x.v.length := by rw [← hL2.len]; exact (List.getElem?_eq_some_iff.1 hg).1
    have h1 := (hL2.val i x.v[i] g (List.getElem?_eq_getElem hi) hg).2
    have h2 := hL2.lt hg
    exact ⟨Nx.keep hn3 (fun hG => by have := hlo1 _ hG; omega) h2, h1, h2⟩
  have hrow3 := own_fr hL2.cop.row hf3 (fun k hk hG => by have := hlo1 k hG; have := (hL2.cop.row.lt k hk).1; omega)
  have hmk3 : ∀ (i : Nat) (y : Vt) (g : Nat × Nat), x.v[i]? = some y → gs[i]? = some g → Marks w3 g.1 g.2 y.v := fun i y g hy hg =>
    (hL2.val i y g hy hg).1.fr hf3 (fun hG => by have := hlo1 _ hG; have := (hng i g hg).2.1; omega)
  have d1 := hq3.cell 1 rfl
  have d4 := hq3.cell 4 rfl
  have hsz23 := hf3.size
  have hlen := hL2.len
  have hdist := hL2.dist
  have H3 := Lib.hid (And.intro hng (And.intro hrow3 (And.intro hmk3 (And.intro hlen (And.intro hdist (And.intro hlo1 hfo1))))))
  clear hl3 hn3 hf3 hvl hL2 hq2 T2 hng hrow3 hmk3 hlen hdist hlo1 hfo1
  go_wp2_with fail
  refine (rprm_any rr st F x.n _ x.v w3 T3.r (HVS.out.fr T3.l.fr).wide (by omega) (fun y hy => by have := HL3.out y hy; omega)).mono ?_
  rintro e w4 ⟨rfl, F4, hR4, hn4, hf4⟩
  rw [HRel.out.prmE]
  have T4 := T3.ref hR4 hn4 hf4
  have hrel4 := HRel.out.prm x.n x.v
  obtain ⟨hng, hrow3, hmk3, hlen, hdist, hlo1, hfo1⟩ := H3.out
  have hq4 := hq3.fr hf4 nf1
  have nf4 := Nx.keep hn4 nf1 hq3.lt
  have hnf : ∀ (i : Nat) (g : Nat × Nat), gs[i]? = some g → ¬ F4 g.1 := fun i g hg =>
    Nx.keep hn4 (fun hF => by have := hfo1 _ hF; have := (hng i g hg).2.1; omega) (by have := (hng i g hg).2.2; omega)
  have hrow4 := own_fr hrow3 hf4 (fun k hk hF => by have := hfo1 k hF; have := (hrow3.lt k hk).1; omega)
  have hmk4 : ∀ (i : Nat) (y : Vt) (g : Nat × Nat), x.v[i]? = some y → gs[i]? = some g → Marks w4 g.1 g.2 y.v := fun i y g hy hg =>
    (hmk3 i y g hy hg).fr hf4 (fun hF => by have := hfo1 _ hF; have := (hng i g hg).2.1; omega)
  obtain ⟨sl1, sl2⟩ := rprmS_len st x.n x.v
  have hbd4 : Bd (c + x.v.length) (rprmS st x.n x.v) (m + 1) := ⟨by omega, by rw [sl2]; omega, by rw [sl1]; omega⟩
  generalize prmP p x.n x.v = p4 at T4 hrel4
  generalize rprmS st x.n x.v = st4 at T4 hrel4 hbd4
  generalize c + x.v.length = cc4 at T4 hbd4
  have hEE : (prmE p x.n x.v == prmE p x.n x.v) = true := by simp
  generalize prmE p x.n x.v = E4 at hEE ⊢
  have HEE := Lib.hid hEE
  have HB4 := Lib.hid (And.intro hrel4 hbd4)
  have hI : Tw W w4 r rr p4 st4 cc4 G3 F4 ∧ Blk w4 q 58 #[.int .i64 1, .int .i64 x.n, .int .u64 x.s, .slice sa x.o.length sc, .slice A x.v.length vc] ∧
      w4.ownsRow w1.heap.size 45 4 (.slice va x.v.length vcc) x.v.length (flatV x.v (lrow x.v gs)) ∧ ∀ (i : Nat) (y : Vt) (g : Nat × Nat), 0 ≤ i → x.v[i]? = some y → gs[i]? = some g → Marks w4 g.1 g.2 y.v :=
    ⟨T4, hq4, hrow4, fun i y g _ => hmk4 i y g⟩
  have HNN := Lib.hid (And.intro hng hnf)
  have HD := Lib.hid (And.intro hlen hdist)
  clear hR4 hn4 hf4 hrel4 hng hrow3 hmk3 hlen hdist hlo1 hfo1 hq3 T3 d1 d4 hnf hrow4 hmk4 hbd4 hEE H3 T4 hq4 sl1 sl2
  go_wp2_with fail
  go_loopg [10] x.v.length (fun g x10 wr => ∃ (j : Nat), j + g = x.v.length ∧ x10 = .int .i64 j ∧ Tw W wr r rr p4 st4 cc4 G3 F4 ∧ Blk wr q 58 #[.int .i64 1, .int .i64 x.n, .int .u64 x.s, .slice sa x.o.length sc, .slice A x.v.length vc] ∧
      wr.ownsRow w1.heap.size 45 4 (.slice va x.v.length vcc) x.v.length (flatV x.v (lrow x.v gs)) ∧ ∀ (i : Nat) (y : Vt) (g : Nat × Nat), j ≤ i → x.v[i]? = some y → gs[i]? = some g → Marks wr g.1 g.2 y.v)
  case atStart => exact ⟨0, by omega, rfl, hI⟩
  case round =>
    clear hI w4
    obtain ⟨j, hj, rfl, T5, hq5, hrow5, hmk5⟩ := hrel
    have HJ := Lib.hid hj
    have hj' : j ≤ x.v.length := by omega
    clear hj
    by_cases hjl : j < x.v.length
    · obtain ⟨y, hy⟩ : ∃ y, x.v[j]? = some y := ⟨_, List.getElem?_eq_getElem hjl⟩
      obtain ⟨g, hg⟩ : ∃ g, gs[j]? = some g := ⟨_, List.getElem?_eq_getElem (by rw [HD.out.1]; exact hjl)⟩
      have hyl := HL3.out y (List.mem_of_getElem? hy)
      have hm5 := hmk5 j y g (Nat.le_refl _) hy hg
      obtain ⟨-, -, -, e4⟩ := flatV_get _ _ j _ _ hy (lrow_get hy hg)
      obtain ⟨gr, cr, hgr⟩ : ∃ gr cr, Value.slice va x.v.length vcc = .slice (some ⟨gr, 0, none⟩) x.v.length cr := by
        rcases own_form hrow5 with ⟨_, h0, _⟩ | ⟨g', cap', cur', h1, _⟩
        · omega
        · exact ⟨g', cap', h1⟩
      injection hgr with hg1 _ hg2
      subst hg1 hg2
      have k1 := own_cell (own_base hrow5) _ e4
      obtain ⟨b, off, s, e5, -, hat, -⟩ := HVE.out j y hy
      subst e5
      have hby := hat.by_.keep (Nat.le_refl _) T5.l.fr
      have hbw : b < W.heap.size := World.block_lt_of_cell? _ _ hat.c0
      have k2 := (hat.fr T5.l.fr (by omega) (fun g' h1 h2 => by
        obtain ⟨k', hk', hlt⟩ := hat.by_.lt h2
        rw [h1] at hk'; injection hk' with hk'; omega)).c3
      obtain ⟨sA, sC, rfl, -, -⟩ := hat.by_
      have d4 := hq5.cell 4 rfl
      have hd := (Fr.refl (fun _ => False) wr).drew
      have HMM := Lib.hid (And.intro hm5 (And.intro hrow5 (And.intro hmk5 (And.intro hy hg))))
      clear hat e4
      clear hmk5 hrow5 hy hg
      go_upto_region 10 with (fail)
      first
        | go_region_held3 (fun wx => wx.cell? ⟨q, 4, none⟩ = some (.slice (some ⟨b, off, none⟩) x.v.length vc) ∧ wx.cell? ⟨gr, j * 4 + 3, none⟩ = some (.slice (some ⟨g.1, 0, none⟩) y.v.length g.2) ∧ wx.cell? ⟨b, off + j * 4 + 3, none⟩ = some (.slice sA y.v.length sC)) (first | exact ⟨d4, k1, k2⟩ | exact hS4)
          ((go_at_call 46
            refine (whole_any g.1 g.2 _ y.v _ (hm5.fr hd (fun h => h)) (hby.fr hd (fun _ _ h => h)) (by omega)).mono ?_
            rintro e w5 ⟨rfl, rfl⟩
            have hS4 := And.intro (hd.cell d4 (fun h => h)) (And.intro (hd.cell k1 (fun h => h)) (hd.cell k2 (fun h => h)))))
        | fail
      all_goals
        obtain ⟨hm5, hrow5, hmk5, hy, hg⟩ := HMM.out
        have T6 := T5.up hd
        have hq6 := hq5.fr hd (fun h => h)
        have hrow6 := own_fr hrow5 hd (fun _ _ h => h)
        have hm6 := hm5.fr hd (fun h => h)
        have k1' := hd.cell k1 (fun h => h)
        generalize wr.drew = w6 at hd T6 hq6 hrow6 hm6 k1' ⊢
        have HM6 := Lib.hid (fun (i : Nat) (y : Vt) (g : Nat × Nat) (hij : j ≤ i) (h1 : x.v[i]? = some y) (h2 : gs[i]? = some g) => (hmk5 i y g hij h1 h2).fr hd (fun h => h))
        have HYG := Lib.hid (And.intro hy hg)
        clear hm5 hrow5 hmk5 hy hg HMM d4 k1 k2 T5 hq5 hd hby
        go_wp2_with fail
        refine (spoil_any _ y.v w6 hm6.own).mono ?_
        rintro e w7 ⟨rfl, hf7⟩
        obtain ⟨hy, hg⟩ := HYG.out
        have hgg := HNN.out.1 j g hg
        have hng' : ∀ k, (Value.slice (some ⟨g.1, 0, none⟩) y.v.length g.2).ownBlock = some k → k = g.1 := fun k hk => by simp only [Value.ownBlock] at hk; injection hk with hk; exact hk.symm
        have T7 := T6.off hf7 (fun k hk => by rw [hng' k hk]; exact ⟨hgg.1, HNN.out.2 j g hg, by have := hgg.2.1; omega⟩)
        have hq7 := hq6.fr hf7 (fun e => by
          have e := hng' _ e
          obtain ⟨cur, hc, _⟩ := hm6
          exact hc.ne_ hq6 (by decide) e.symm)
        have hrow7 := own_fr hrow6 hf7 (fun k hk e => by
          have e := hng' _ e
          obtain ⟨cur, hc, _⟩ := hm6
          exact own_blk_ne hrow6 hc (by decide) k hk e)
        have HM7 := Lib.hid (fun (i : Nat) (y' : Vt) (g' : Nat × Nat) (hij : j + 1 ≤ i) (h1 : x.v[i]? = some y') (h2 : gs[i]? = some g') => (HM6.out i y' g' (by omega) h1 h2).fr hf7 (fun e => by
          have e := hng' _ e
          obtain ⟨h3, h4⟩ := List.getElem?_eq_some_iff.1 hg
          obtain ⟨h5, h6⟩ := List.getElem?_eq_some_iff.1 h2
          have := List.pairwise_iff_getElem.1 HD.out.2 j i h3 h5 (by omega)
          rw [h4, h6] at this
          exact this e.symm))
        clear hf7 hng' hy hg hgg T6 hq6 hrow6 hm6 k1' HM6
        go_wp2_with fail
        go_roundg (x.v.length - (j + 1))
        case measure => have := HJ.out; omega
        case rel => exact ⟨j + 1, by have := HJ.out; omega, by go_num, T7, hq7, hrow7, HM7.out⟩
    · obtain rfl : j = x.v.length := by omega
      have hEE := HEE.out
      have HT := Lib.hid T5
      clear hmk5 hrow5 hq5 T5
      go_wp2_with fail
      go_ret
      exact ⟨rfl, _, _, _, _, _, HT.out, HB4.out⟩
set_option maxRecDepth 100000 in
set_option maxHeartbeats 16000000 in
theorem play_pro2 :
    Calls Try.prog 27 #[.pointer (some ⟨r, 0, none⟩), .pointer (some ⟨rr, 0, none⟩), .agg #[.int .i64 2, .int .i64 x.n, .int .u64 x.s, os, vs]] w (PlayPost W r rr (m + 1)) := by
  obtain ⟨hb1, hb2, hb3⟩ := hbd
  obtain ⟨hl1, hl2, hl3⟩ := hsh
  have HOS := Lib.hid hos
  have HVS := Lib.hid hvs
  have HRel := Lib.hid hrel
  have HL3 := Lib.hid hl3
  obtain ⟨sa, sc, rfl, -, -⟩ := hos
  obtain ⟨⟨A, vc, rfl, hve⟩, -⟩ := hvs
  have HVE := Lib.hid hve
  clear hve hrel hl3
  obtain ⟨w1, q, hw1, hq, hq1, T1, ng1, nf1, lo1, hf1⟩ := h.new #[.int .i64 2, .int .i64 x.n, .int .u64 x.s, .slice sa x.o.length sc, .slice A x.v.length vc] 58
  have HW1 := Lib.hid hw1
  have HQ := Lib.hid hq
  have c0 := hq1.cell 0 rfl
  have c1 := hq1.cell 1 rfl
  have c2 := hq1.cell 2 rfl
  have c3 := hq1.cell 3 rfl
  have c4 := hq1.cell 4 rfl
  clear hw1 hq h hf1
  go_enter Try.func27, Try.ntmps27
  go_upto_region 1 with (fail)
  rw [← HW1.out, ← HQ.out]
  clear HW1 HQ
  have hby1 := HOS.out.keep (Nat.le_refl _) T1.l.fr
  go_wp2_with fail
  refine (lent_any _ x.o w1 hby1 (by omega)).mono ?_
  rintro e w2 ⟨g, cap, rfl, hm2, hg2, hf2⟩
  have T2 := T1.up hf2
  have hq2 := hq1.fr hf2 (fun h => h)
  have ngg : ¬ G g := fun hG => by have := (T1.l.lo g hG).2; omega
  have nfg : ¬ F g := fun hG => by have := (T1.fl g hG).2; omega
  have logg : W.heap.size ≤ g := by have := T1.l.fr.size; omega
  have gq : g ≠ q := by have := hq1.lt; omega
  have d2 := hq2.cell 2 rfl
  have hgl2 := hm2.lt
  clear c0 c1 c2 c3 c4 hf2 T1 hq1 hby1
  go_wp2_with fail
  refine (pro_lw T2.l x.s hs64 _ x.o (by unfold maxLen; omega) hm2.byt).mono ?_
  rintro e w3 ⟨va, vb, G3, rfl, ho3, hl3, hn3, hno3, hf3⟩
  have T3 := T2.prog hl3 hn3 hf3
  have hq3 := hq2.fr hf3 ng1
  have ng3 := Nx.keep hn3 ng1 hq2.lt
  have ngg3 := Nx.keep hn3 ngg hgl2
  have hm3 := hm2.fr hf3 ngg
  have hVo := proV_ok T2.l.pr.wf x.s hs64 x.o
  have hPE := Lib.hid (fun (o : Option (Vt × Nat)) (ho : BestR st.L x.s o) => And.intro (HRel.out.proE T2.r.wf (own := x.o) ho) (And.intro (HRel.out.proV T2.r.wf (own := x.o) ho) (HRel.out.pro T2.r.wf (own := x.o) ho)))
  generalize proV p x.s x.o = V at ho3 hno3 hVo hPE ⊢
  generalize proE p x.s x.o = E at hPE ⊢
  generalize proP p x.s x.o = p3 at T3 hPE
  simp only [vtV]
  obtain ⟨w4, hw4⟩ : ∃ w4, w4 = w3.alloc (.cells #[.int .u64 V.s, .int .u64 V.n, .int .i64 V.d, .slice va V.v.length vb] 45) := ⟨_, rfl⟩
  obtain ⟨b4, hb4⟩ : ∃ b, b = w3.heap.size := ⟨_, rfl⟩
  have hf4 : Fr (fun _ => False) w3 w4 := by rw [hw4]; exact (Fr.refl _ w3).alloc _
  have hV4 : Blk w4 b4 45 #[.int .u64 V.s, .int .u64 V.n, .int .i64 V.d, .slice va V.v.length vb] := by rw [hw4, hb4]; exact Blk.new _ _ _
  have T4 := T3.up hf4
  have hq4 := hq3.fr hf4 (fun h => h)
  have hm4 := hm3.fr hf4 (fun h => h)
  have ho4 := own_fr (own_base ho3) hf4 (fun _ _ h => h)
  have nfb : ¬ F b4 := fun hF => by have := (T3.fl b4 hF).2; omega
  have hxo : ∀ j, (Value.slice va V.v.length vb).ownBlock = some j → ¬ G3 j ∧ ¬ F j ∧ W.heap.size ≤ j ∧ j ≠ g ∧ j < w4.heap.size ∧ j ≠ b4 := fun j hj => by
    have h1 := ho3.lt j hj
    have h2 := T2.l.fr.size
    have h3 := hf4.size
    exact ⟨hno3 j hj, fun hF => by have := (T2.fl j hF).2; omega, by omega, by omega, by omega, by omega⟩
  have hbg : b4 ≠ g := by have := hm3.lt; omega
  have HW4 := Lib.hid hw4
  have HB4 := Lib.hid hb4
  have HX := Lib.hid hxo
  have HVo := Lib.hid hVo
  clear hw4 hb4 hf4 hl3 hn3 hno3 hf3 T2 hq2 hm2 T3 hq3 hm3 ho3 d2 hxo hVo
  go_upto_region 18 with (fail)
  rw [← HW4.out, ← HB4.out]
  clear HW4 HB4
  have d2 := hq4.cell 2 rfl
  have d3 := hq4.cell 3 rfl
  go_wp2_with fail
  refine (rpro_any rr st F x.s hs64 _ x.o w4 T4.r (fun j hj => (T4.fl j hj).2) (HOS.out.keep (Nat.le_refl _) T4.l.fr) (by omega) (by omega)).mono ?_
  rintro e w5 ⟨o, na, nb, hbo, rfl, hby5, hna5, F5, hR5, hn5, hf5⟩
  obtain ⟨e1, e2, e3⟩ := hPE.out o hbo
  rw [e1, e2]
  rw [e2] at hby5 hna5
  obtain ⟨sl1, sl2⟩ := rproS_len st x.s x.o o
  have hbd5 : Bd (c + 1) (rproS st x.s x.o o) (m + 1) := ⟨by omega, by omega, by rw [sl2]; omega⟩
  generalize rproS st x.s x.o o = st5 at hR5 e3 hbd5
  have T5 := T4.ref hR5 hn5 hf5
  have HB5 := Lib.hid (And.intro e3 hbd5)
  have hm5 := hm4.fr hf5 nfg
  have hV5 := hV4.fr hf5 nfb
  have ho5 := own_fr ho4 hf5 (fun j hj => (HX.out j hj).2.1)
  have nfg5 := Nx.keep hn5 nfg hm4.lt
  have hxo5 : ∀ j, (Value.slice va V.v.length vb).ownBlock = some j → ¬ G3 j ∧ ¬ F5 j ∧ W.heap.size ≤ j ∧ j ≠ g ∧ j < w5.heap.size ∧ j ≠ b4 := fun j hj => by
    obtain ⟨h1, h2, h3, h4, h5, h6⟩ := HX.out j hj
    have := hf5.size
    exact ⟨h1, Nx.keep hn5 h2 h5, h3, h4, by omega, h6⟩
  simp only [vtV]
  obtain ⟨w6, hw6⟩ : ∃ w6, w6 = w5.alloc (.cells #[.int .u64 V.s, .int .u64 V.n, .int .i64 V.d, .slice na V.v.length nb] 45) := ⟨_, rfl⟩
  obtain ⟨b6, hb6⟩ : ∃ b, b = w5.heap.size := ⟨_, rfl⟩
  have hf6 : Fr (fun _ => False) w5 w6 := by rw [hw6]; exact (Fr.refl _ w5).alloc _
  have hN6 : Blk w6 b6 45 #[.int .u64 V.s, .int .u64 V.n, .int .i64 V.d, .slice na V.v.length nb] := by rw [hw6, hb6]; exact Blk.new _ _ _
  have T6 := T5.up hf6
  have hm6 := hm5.fr hf6 (fun h => h)
  have hV6 := hV5.fr hf6 (fun h => h)
  have ho6 := own_fr ho5 hf6 (fun _ _ h => h)
  have hby6 := hby5.fr hf6 (fun _ _ h => h)
  have hbg6 : b6 ≠ g := by have := hm5.lt; omega
  have hnag : ∀ j, (Value.slice na V.v.length nb).ownBlock = some j → V.v ≠ [] → j ≠ g := fun j hj hn e => by
    subst e
    rcases hna5 j hj hn with h1 | h1
    · exact nfg h1
    · have := hm4.lt; omega
  have HW6 := Lib.hid hw6
  have HB6 := Lib.hid hb6
  have HX6 := Lib.hid hxo5
  clear hna5 hw6 hb6 hf6 hR5 hn5 hf5 T5 hm5 hV5 ho5 hby5 T4 hq4 hm4 hV4 ho4 d2 d3 hxo5 e1 e2 e3 hbo hPE HX hbd5 sl1 sl2
  go_upto_region 19 with (fail)
  rw [← HW6.out, ← HB6.out]
  clear HW6 HB6
  go_wp2_with fail
  refine (spoil_any _ x.o w6 hm6.own).mono ?_
  rintro e w7 ⟨rfl, hf7⟩
  have hgk : ∀ k, (Value.slice (some ⟨g, 0, none⟩) x.o.length cap).ownBlock = some k → k = g := fun k hk => by simp only [Value.ownBlock] at hk; injection hk with hk; exact hk.symm
  have T7 := T6.off hf7 (fun k hk => by rw [hgk k hk]; exact ⟨ngg3, nfg5, logg⟩)
  have hV7 := hV6.fr hf7 (fun e => hbg (hgk _ e))
  have hN7 := hN6.fr hf7 (fun e => hbg6 (hgk _ e))
  have ho7 := own_fr ho6 hf7 (fun j hj e => (HX6.out j hj).2.2.2.1 (hgk _ e))
  have hby7 := hby6.fr' hf7 (fun j hj hn e => hnag j hj hn (hgk _ e))
  clear hf7 hgk T6 hV6 hN6 ho6 hby6 hm6 hnag
  have v0 := hV7.cell 0 rfl
  have v1 := hV7.cell 1 rfl
  have v2 := hV7.cell 2 rfl
  have v3 := hV7.cell 3 rfl
  obtain ⟨Z, hZ⟩ : ∃ Z, Z = Obj.cells #[.int .u64 V.s, .int .u64 V.n, .int .i64 V.d, .slice va V.v.length vb] 45 := ⟨_, rfl⟩
  have y0 := al_cell (hN7.cell 0 rfl) Z
  have y1 := al_cell (hN7.cell 1 rfl) Z
  have y2 := al_cell (hN7.cell 2 rfl) Z
  have y3 := al_cell (hN7.cell 3 rfl) Z
  rw [hZ] at y0 y1 y2 y3
  clear hZ
  obtain ⟨w8, hw8⟩ : ∃ w8, w8 = w7.alloc (.cells #[.int .u64 V.s, .int .u64 V.n, .int .i64 V.d, .slice va V.v.length vb] 45) := ⟨_, rfl⟩
  obtain ⟨w9, hw9⟩ : ∃ w9, w9 = w8.alloc (.cells #[.int .u64 V.s, .int .u64 V.n, .int .i64 V.d, .slice na V.v.length nb] 45) := ⟨_, rfl⟩
  have hf8 : Fr (fun _ => False) w7 w8 := by rw [hw8]; exact (Fr.refl _ w7).alloc _
  have hf9 : Fr (fun _ => False) w8 w9 := by rw [hw9]; exact (Fr.refl _ w8).alloc _
  have hz8 : w8.heap.size = w7.heap.size + 1 := by rw [hw8]; simp
  have hA8 : Blk w8 w7.heap.size 45 #[.int .u64 V.s, .int .u64 V.n, .int .i64 V.d, .slice va V.v.length vb] := by rw [hw8]; exact Blk.new _ _ _
  have hA9 : Blk w9 w8.heap.size 45 #[.int .u64 V.s, .int .u64 V.n, .int .i64 V.d, .slice na V.v.length nb] := by rw [hw9]; exact Blk.new _ _ _
  have hL1 : VtL w9 (.slice (some ⟨w7.heap.size, 0, none⟩) 1 1) [V] (fun _ => False) := HVo.out.one (hA8.fr hf9 (fun h => h)) (Byt.of_own (own_fr ho7 (hf8.tr hf9) (fun _ _ h => h))) (fun h => h) (fun _ _ _ h => h) 1
  have hL2 : VtL w9 (.slice (some ⟨w8.heap.size, 0, none⟩) 1 1) [V] (fun _ => False) := HVo.out.one hA9 (hby7.fr (hf8.tr hf9) (fun _ _ h => h)) (fun h => h) (fun _ _ _ h => h) 1
  have T9 := T7.up (hf8.tr hf9)
  have hV9 := hV7.fr (hf8.tr hf9) (fun h => h)
  have ho9 := own_fr ho7 (hf8.tr hf9) (fun _ _ h => h)
  have H89 := Lib.hid (And.intro hw8 hw9)
  have HZ8 := Lib.hid hz8
  clear hw8 hw9 hz8 hf8 hf9 hA8 hA9 T7 ho7 hby7 hN7 hV7
  go_wp2_with fail
  rw [← H89.out.1, ← HZ8.out, ← H89.out.2]
  clear H89 HZ8 v0 v1 v2 v3 y0 y1 y2 y3
  refine (rsame_any _ _ [V] [V] _ _ w9 hL1 hL2).mono ?_
  rintro e w10 ⟨bb, rfl, hbb, hf10⟩
  obtain rfl : bb = true := hbb.2 rfl
  have T10 := T9.up hf10
  have ho10 := own_fr ho9 hf10 (fun _ _ h => h)
  have v3 := (hV9.fr hf10 (fun h => h)).cell 3 rfl
  have hEE : (E == E) = true := by simp
  clear hbb hf10 hL1 hL2 T9 ho9 hV9
  go_wp2_with fail
  refine (spoil_any _ V.v w10 ho10).mono ?_
  rintro e w11 ⟨rfl, hf11⟩
  have T11 := T10.off hf11 (fun k hk => ⟨(HX6.out k hk).1, (HX6.out k hk).2.1, (HX6.out k hk).2.2.1⟩)
  have HT := Lib.hid T11
  clear hf11 T10 ho10 v3 hEE T11
  go_wp2_with fail
  go_ret
  exact ⟨rfl, _, _, _, _, _, HT.out, HB5.out⟩
set_option maxRecDepth 100000 in
set_option maxHeartbeats 16000000 in
theorem play_pro3 :
    Calls Try.prog 27 #[.pointer (some ⟨r, 0, none⟩), .pointer (some ⟨rr, 0, none⟩), .agg #[.int .i64 3, .int .i64 x.n, .int .u64 x.s, os, vs]] w (PlayPost W r rr (m + 1)) := by
  obtain ⟨hb1, hb2, hb3⟩ := hbd
  obtain ⟨hl1, hl2, hl3⟩ := hsh
  have HOS := Lib.hid hos
  have HVS := Lib.hid hvs
  have HRel := Lib.hid hrel
  have HL3 := Lib.hid hl3
  obtain ⟨sa, sc, rfl, -, -⟩ := hos
  obtain ⟨⟨A, vc, rfl, hve⟩, -⟩ := hvs
  have HVE := Lib.hid hve
  clear hve hrel hl3
  obtain ⟨w1, q, hw1, hq, hq1, T1, ng1, nf1, lo1, hf1⟩ := h.new #[.int .i64 3, .int .i64 x.n, .int .u64 x.s, .slice sa x.o.length sc, .slice A x.v.length vc] 58
  have HW1 := Lib.hid hw1
  have HQ := Lib.hid hq
  have c0 := hq1.cell 0 rfl
  have c1 := hq1.cell 1 rfl
  have c2 := hq1.cell 2 rfl
  have c3 := hq1.cell 3 rfl
  have c4 := hq1.cell 4 rfl
  clear hw1 hq h hf1
  go_enter Try.func27, Try.ntmps27
  go_upto_region 1 with (fail)
  rw [← HW1.out, ← HQ.out]
  clear HW1 HQ
  have hby1 := HOS.out.keep (Nat.le_refl _) T1.l.fr
  go_wp2_with fail
  refine (lent_any _ x.o w1 hby1 (by omega)).mono ?_
  rintro e w2 ⟨g, cap, rfl, hm2, hg2, hf2⟩
  have T2 := T1.up hf2
  have hq2 := hq1.fr hf2 (fun h => h)
  have ngg : ¬ G g := fun hG => by have := (T1.l.lo g hG).2; omega
  have nfg : ¬ F g := fun hG => by have := (T1.fl g hG).2; omega
  have logg : W.heap.size ≤ g := by have := T1.l.fr.size; omega
  have gq : g ≠ q := by have := hq1.lt; omega
  have d2 := hq2.cell 2 rfl
  have hgl2 := hm2.lt
  clear c0 c1 c2 c3 c4 hf2 T1 hq1 hby1
  go_wp2_with fail
  refine (pro_lw T2.l x.s hs64 _ x.o (by unfold maxLen; omega) hm2.byt).mono ?_
  rintro e w3 ⟨va, vb, G3, rfl, ho3, hl3, hn3, hno3, hf3⟩
  have T3 := T2.prog hl3 hn3 hf3
  have hq3 := hq2.fr hf3 ng1
  have ng3 := Nx.keep hn3 ng1 hq2.lt
  have ngg3 := Nx.keep hn3 ngg hgl2
  have hm3 := hm2.fr hf3 ngg
  have hVo := proV_ok T2.l.pr.wf x.s hs64 x.o
  have hPE := Lib.hid (fun (o : Option (Vt × Nat)) (ho : BestR st.L x.s o) => And.intro (HRel.out.proE T2.r.wf (own := x.o) ho) (And.intro (HRel.out.proV T2.r.wf (own := x.o) ho) (HRel.out.pro T2.r.wf (own := x.o) ho)))
  generalize proV p x.s x.o = V at ho3 hno3 hVo hPE ⊢
  generalize proE p x.s x.o = E at hPE ⊢
  generalize proP p x.s x.o = p3 at T3 hPE
  simp only [vtV]
  obtain ⟨w4, hw4⟩ : ∃ w4, w4 = w3.alloc (.cells #[.int .u64 V.s, .int .u64 V.n, .int .i64 V.d, .slice va V.v.length vb] 45) := ⟨_, rfl⟩
  obtain ⟨b4, hb4⟩ : ∃ b, b = w3.heap.size := ⟨_, rfl⟩
  have hf4 : Fr (fun _ => False) w3 w4 := by rw [hw4]; exact (Fr.refl _ w3).alloc _
  have hV4 : Blk w4 b4 45 #[.int .u64 V.s, .int .u64 V.n, .int .i64 V.d, .slice va V.v.length vb] := by rw [hw4, hb4]; exact Blk.new _ _ _
  have T4 := T3.up hf4
  have hq4 := hq3.fr hf4 (fun h => h)
  have hm4 := hm3.fr hf4 (fun h => h)
  have ho4 := own_fr (own_base ho3) hf4 (fun _ _ h => h)
  have nfb : ¬ F b4 := fun hF => by have := (T3.fl b4 hF).2; omega
  have hxo : ∀ j, (Value.slice va V.v.length vb).ownBlock = some j → ¬ G3 j ∧ ¬ F j ∧ W.heap.size ≤ j ∧ j ≠ g ∧ j < w4.heap.size ∧ j ≠ b4 := fun j hj => by
    have h1 := ho3.lt j hj
    have h2 := T2.l.fr.size
    have h3 := hf4.size
    exact ⟨hno3 j hj, fun hF => by have := (T2.fl j hF).2; omega, by omega, by omega, by omega, by omega⟩
  have hbg : b4 ≠ g := by have := hm3.lt; omega
  have HW4 := Lib.hid hw4
  have HB4 := Lib.hid hb4
  have HX := Lib.hid hxo
  have HVo := Lib.hid hVo
  clear hw4 hb4 hf4 hl3 hn3 hno3 hf3 T2 hq2 hm2 T3 hq3 hm3 ho3 d2 hxo hVo
  go_upto_region 18 with (fail)
  rw [← HW4.out, ← HB4.out]
  clear HW4 HB4
  have d2 := hq4.cell 2 rfl
  have d3 := hq4.cell 3 rfl
  go_wp2_with fail
  refine (rpro_any rr st F x.s hs64 _ x.o w4 T4.r (fun j hj => (T4.fl j hj).2) (HOS.out.keep (Nat.le_refl _) T4.l.fr) (by omega) (by omega)).mono ?_
  rintro e w5 ⟨o, na, nb, hbo, rfl, hby5, hna5, F5, hR5, hn5, hf5⟩
  obtain ⟨e1, e2, e3⟩ := hPE.out o hbo
  rw [e1, e2]
  rw [e2] at hby5 hna5
  obtain ⟨sl1, sl2⟩ := rproS_len st x.s x.o o
  have hbd5 : Bd (c + 1) (rproS st x.s x.o o) (m + 1) := ⟨by omega, by omega, by rw [sl2]; omega⟩
  generalize rproS st x.s x.o o = st5 at hR5 e3 hbd5
  have T5 := T4.ref hR5 hn5 hf5
  have HB5 := Lib.hid (And.intro e3 hbd5)
  have hm5 := hm4.fr hf5 nfg
  have hV5 := hV4.fr hf5 nfb
  have ho5 := own_fr ho4 hf5 (fun j hj => (HX.out j hj).2.1)
  have nfg5 := Nx.keep hn5 nfg hm4.lt
  have hxo5 : ∀ j, (Value.slice va V.v.length vb).ownBlock = some j → ¬ G3 j ∧ ¬ F5 j ∧ W.heap.size ≤ j ∧ j ≠ g ∧ j < w5.heap.size ∧ j ≠ b4 := fun j hj => by
    obtain ⟨h1, h2, h3, h4, h5, h6⟩ := HX.out j hj
    have := hf5.size
    exact ⟨h1, Nx.keep hn5 h2 h5, h3, h4, by omega, h6⟩
  simp only [vtV]
  obtain ⟨w6, hw6⟩ : ∃ w6, w6 = w5.alloc (.cells #[.int .u64 V.s, .int .u64 V.n, .int .i64 V.d, .slice na V.v.length nb] 45) := ⟨_, rfl⟩
  obtain ⟨b6, hb6⟩ : ∃ b, b = w5.heap.size := ⟨_, rfl⟩
  have hf6 : Fr (fun _ => False) w5 w6 := by rw [hw6]; exact (Fr.refl _ w5).alloc _
  have hN6 : Blk w6 b6 45 #[.int .u64 V.s, .int .u64 V.n, .int .i64 V.d, .slice na V.v.length nb] := by rw [hw6, hb6]; exact Blk.new _ _ _
  have T6 := T5.up hf6
  have hm6 := hm5.fr hf6 (fun h => h)
  have hV6 := hV5.fr hf6 (fun h => h)
  have ho6 := own_fr ho5 hf6 (fun _ _ h => h)
  have hby6 := hby5.fr hf6 (fun _ _ h => h)
  have hbg6 : b6 ≠ g := by have := hm5.lt; omega
  have hnag : ∀ j, (Value.slice na V.v.length nb).ownBlock = some j → V.v ≠ [] → j ≠ g := fun j hj hn e => by
    subst e
    rcases hna5 j hj hn with h1 | h1
    · exact nfg h1
    · have := hm4.lt; omega
  have HW6 := Lib.hid hw6
  have HB6 := Lib.hid hb6
  have HX6 := Lib.hid hxo5
  clear hna5 hw6 hb6 hf6 hR5 hn5 hf5 T5 hm5 hV5 ho5 hby5 T4 hq4 hm4 hV4 ho4 d2 d3 hxo5 e1 e2 e3 hbo hPE HX hbd5 sl1 sl2
  go_upto_region 19 with (fail)
  rw [← HW6.out, ← HB6.out]
  clear HW6 HB6
  go_wp2_with fail
  refine (spoil_any _ x.o w6 hm6.own).mono ?_
  rintro e w7 ⟨rfl, hf7⟩
  have hgk : ∀ k, (Value.slice (some ⟨g, 0, none⟩) x.o.length cap).ownBlock = some k → k = g := fun k hk => by simp only [Value.ownBlock] at hk; injection hk with hk; exact hk.symm
  have T7 := T6.off hf7 (fun k hk => by rw [hgk k hk]; exact ⟨ngg3, nfg5, logg⟩)
  have hV7 := hV6.fr hf7 (fun e => hbg (hgk _ e))
  have hN7 := hN6.fr hf7 (fun e => hbg6 (hgk _ e))
  have ho7 := own_fr ho6 hf7 (fun j hj e => (HX6.out j hj).2.2.2.1 (hgk _ e))
  have hby7 := hby6.fr' hf7 (fun j hj hn e => hnag j hj hn (hgk _ e))
  clear hf7 hgk T6 hV6 hN6 ho6 hby6 hm6 hnag
  have v0 := hV7.cell 0 rfl
  have v1 := hV7.cell 1 rfl
  have v2 := hV7.cell 2 rfl
  have v3 := hV7.cell 3 rfl
  obtain ⟨Z, hZ⟩ : ∃ Z, Z = Obj.cells #[.int .u64 V.s, .int .u64 V.n, .int .i64 V.d, .slice va V.v.length vb] 45 := ⟨_, rfl⟩
  have y0 := al_cell (hN7.cell 0 rfl) Z
  have y1 := al_cell (hN7.cell 1 rfl) Z
  have y2 := al_cell (hN7.cell 2 rfl) Z
  have y3 := al_cell (hN7.cell 3 rfl) Z
  rw [hZ] at y0 y1 y2 y3
  clear hZ
  obtain ⟨w8, hw8⟩ : ∃ w8, w8 = w7.alloc (.cells #[.int .u64 V.s, .int .u64 V.n, .int .i64 V.d, .slice va V.v.length vb] 45) := ⟨_, rfl⟩
  obtain ⟨w9, hw9⟩ : ∃ w9, w9 = w8.alloc (.cells #[.int .u64 V.s, .int .u64 V.n, .int .i64 V.d, .slice na V.v.length nb] 45) := ⟨_, rfl⟩
  have hf8 : Fr (fun _ => False) w7 w8 := by rw [hw8]; exact (Fr.refl _ w7).alloc _
  have hf9 : Fr (fun _ => False) w8 w9 := by rw [hw9]; exact (Fr.refl _ w8).alloc _
  have hz8 : w8.heap.size = w7.heap.size + 1 := by rw [hw8]; simp
  have hA8 : Blk w8 w7.heap.size 45 #[.int .u64 V.s, .int .u64 V.n, .int .i64 V.d, .slice va V.v.length vb] := by rw [hw8]; exact Blk.new _ _ _
  have hA9 : Blk w9 w8.heap.size 45 #[.int .u64 V.s, .int .u64 V.n, .int .i64 V.d, .slice na V.v.length nb] := by rw [hw9]; exact Blk.new _ _ _
  have hL1 : VtL w9 (.slice (some ⟨w7.heap.size, 0, none⟩) 1 1) [V] (fun _ => False) := HVo.out.one (hA8.fr hf9 (fun h => h)) (Byt.of_own (own_fr ho7 (hf8.tr hf9) (fun _ _ h => h))) (fun h => h) (fun _ _ _ h => h) 1
  have hL2 : VtL w9 (.slice (some ⟨w8.heap.size, 0, none⟩) 1 1) [V] (fun _ => False) := HVo.out.one hA9 (hby7.fr (hf8.tr hf9) (fun _ _ h => h)) (fun h => h) (fun _ _ _ h => h) 1
  have T9 := T7.up (hf8.tr hf9)
  have hV9 := hV7.fr (hf8.tr hf9) (fun h => h)
  have ho9 := own_fr ho7 (hf8.tr hf9) (fun _ _ h => h)
  have H89 := Lib.hid (And.intro hw8 hw9)
  have HZ8 := Lib.hid hz8
  clear hw8 hw9 hz8 hf8 hf9 hA8 hA9 T7 ho7 hby7 hN7 hV7
  go_wp2_with fail
  rw [← H89.out.1, ← HZ8.out, ← H89.out.2]
  clear H89 HZ8 v0 v1 v2 v3 y0 y1 y2 y3
  refine (rsame_any _ _ [V] [V] _ _ w9 hL1 hL2).mono ?_
  rintro e w10 ⟨bb, rfl, hbb, hf10⟩
  obtain rfl : bb = true := hbb.2 rfl
  have T10 := T9.up hf10
  have ho10 := own_fr ho9 hf10 (fun _ _ h => h)
  have v3 := (hV9.fr hf10 (fun h => h)).cell 3 rfl
  have hEE : (E == E) = true := by simp
  clear hbb hf10 hL1 hL2 T9 ho9 hV9
  go_wp2_with fail
  refine (spoil_any _ V.v w10 ho10).mono ?_
  rintro e w11 ⟨rfl, hf11⟩
  have T11 := T10.off hf11 (fun k hk => ⟨(HX6.out k hk).1, (HX6.out k hk).2.1, (HX6.out k hk).2.2.1⟩)
  have HT := Lib.hid T11
  clear hf11 T10 ho10 v3 hEE T11
  go_wp2_with fail
  go_ret
  exact ⟨rfl, _, _, _, _, _, HT.out, HB5.out⟩
set_option maxRecDepth 100000 in
set_option maxHeartbeats 16000000 in
theorem play_acc4 :
    Calls Try.prog 27 #[.pointer (some ⟨r, 0, none⟩), .pointer (some ⟨rr, 0, none⟩), .agg #[.int .i64 4, .int .i64 x.n, .int .u64 x.s, os, vs]] w (PlayPost W r rr (m + 1)) := by
  obtain ⟨hb1, hb2, hb3⟩ := hbd
  obtain ⟨hl1, hl2, hl3⟩ := hsh
  have HOS := Lib.hid hos
  have HVS := Lib.hid hvs
  have HRel := Lib.hid hrel
  have HL3 := Lib.hid hl3
  obtain ⟨sa, sc, rfl, -, -⟩ := hos
  obtain ⟨⟨A, vc, rfl, hve⟩, -⟩ := hvs
  have HVE := Lib.hid hve
  clear hve hrel hl3
  obtain ⟨w1, q, hw1, hq, hq1, T1, ng1, nf1, lo1, hf1⟩ := h.new #[.int .i64 4, .int .i64 x.n, .int .u64 x.s, .slice sa x.o.length sc, .slice A x.v.length vc] 58
  have HW1 := Lib.hid hw1
  have HQ := Lib.hid hq
  have c0 := hq1.cell 0 rfl
  have c1 := hq1.cell 1 rfl
  have c2 := hq1.cell 2 rfl
  have c3 := hq1.cell 3 rfl
  have c4 := hq1.cell 4 rfl
  clear hw1 hq h hf1
  go_enter Try.func27, Try.ntmps27
  go_upto_region 1 with (fail)
  rw [← HW1.out, ← HQ.out]
  clear HW1 HQ
  go_wp2_with fail
  refine (acc_lw T1.l x.n x.s hs64).mono ?_
  rintro e w2 ⟨rfl, hl2, hf2⟩
  have T2 := T1.prog hl2 (Nx.refl _ _ _) hf2
  have hq2 := hq1.fr hf2 ng1
  have d1 := hq2.cell 1 rfl
  have d2 := hq2.cell 2 rfl
  clear c0 c1 c2 c3 c4 T1 hl2 hf2 hq1
  go_wp2_with fail
  refine (racc_any rr st F x.n x.s hs64 w2 T2.r (by omega)).mono ?_
  rintro e w3 ⟨rfl, F3, hR3, hn3, hf3⟩
  rw [HRel.out.accE]
  have T3 := T2.ref hR3 hn3 hf3
  have hrel3 := HRel.out.acc x.n x.s
  obtain ⟨sl1, sl2⟩ := raccS_len st x.n x.s
  have hbd3 : Bd c (raccS st x.n x.s) (m + 1) := ⟨by omega, by rw [sl2]; omega, by omega⟩
  have HT := Lib.hid (And.intro T3 (And.intro hrel3 hbd3))
  have hEE : (accE p x.n x.s == accE p x.n x.s) = true := by simp
  clear T2 hq2 hR3 hn3 hf3 T3 hrel3 hbd3 sl1 sl2 d1 d2
  go_wp2_with fail
  go_ret
  exact ⟨rfl, _, _, _, _, _, HT.out.1, HT.out.2⟩
set_option maxRecDepth 100000 in
set_option maxHeartbeats 16000000 in
theorem play_acc5 :
    Calls Try.prog 27 #[.pointer (some ⟨r, 0, none⟩), .pointer (some ⟨rr, 0, none⟩), .agg #[.int .i64 5, .int .i64 x.n, .int .u64 x.s, os, vs]] w (PlayPost W r rr (m + 1)) := by
  obtain ⟨hb1, hb2, hb3⟩ := hbd
  obtain ⟨hl1, hl2, hl3⟩ := hsh
  have HOS := Lib.hid hos
  have HVS := Lib.hid hvs
  have HRel := Lib.hid hrel
  have HL3 := Lib.hid hl3
  obtain ⟨sa, sc, rfl, -, -⟩ := hos
  obtain ⟨⟨A, vc, rfl, hve⟩, -⟩ := hvs
  have HVE := Lib.hid hve
  clear hve hrel hl3
  obtain ⟨w1, q, hw1, hq, hq1, T1, ng1, nf1, lo1, hf1⟩ := h.new #[.int .i64 5, .int .i64 x.n, .int .u64 x.s, .slice sa x.o.length sc, .slice A x.v.length vc] 58
  have HW1 := Lib.hid hw1
  have HQ := Lib.hid hq
  have c0 := hq1.cell 0 rfl
  have c1 := hq1.cell 1 rfl
  have c2 := hq1.cell 2 rfl
  have c3 := hq1.cell 3 rfl
  have c4 := hq1.cell 4 rfl
  clear hw1 hq h hf1
  go_enter Try.func27, Try.ntmps27
  go_upto_region 1 with (fail)
  rw [← HW1.out, ← HQ.out]
  clear HW1 HQ
  go_wp2_with fail
  refine (acc_lw T1.l x.n x.s hs64).mono ?_
  rintro e w2 ⟨rfl, hl2, hf2⟩
  have T2 := T1.prog hl2 (Nx.refl _ _ _) hf2
  have hq2 := hq1.fr hf2 ng1
  have d1 := hq2.cell 1 rfl
  have d2 := hq2.cell 2 rfl
  clear c0 c1 c2 c3 c4 T1 hl2 hf2 hq1
  go_wp2_with fail
  refine (racc_any rr st F x.n x.s hs64 w2 T2.r (by omega)).mono ?_
  rintro e w3 ⟨rfl, F3, hR3, hn3, hf3⟩
  rw [HRel.out.accE]
  have T3 := T2.ref hR3 hn3 hf3
  have hrel3 := HRel.out.acc x.n x.s
  obtain ⟨sl1, sl2⟩ := raccS_len st x.n x.s
  have hbd3 : Bd c (raccS st x.n x.s) (m + 1) := ⟨by omega, by rw [sl2]; omega, by omega⟩
  have HT := Lib.hid (And.intro T3 (And.intro hrel3 hbd3))
  have hEE : (accE p x.n x.s == accE p x.n x.s) = true := by simp
  clear T2 hq2 hR3 hn3 hf3 T3 hrel3 hbd3 sl1 sl2 d1 d2
  go_wp2_with fail
  go_ret
  exact ⟨rfl, _, _, _, _, _, HT.out.1, HT.out.2⟩
omit hm hs64 hsh in
set_option maxRecDepth 100000 in
set_option maxHeartbeats 16000000 in
theorem play_none (k0 : ¬ x.k = 0) (k1 : ¬ x.k = 1) (k2 : ¬ x.k = 2) (k3 : ¬ x.k = 3) (k4 : ¬ x.k = 4) (k5 : ¬ x.k = 5) :
    Calls Try.prog 27 #[.pointer (some ⟨r, 0, none⟩), .pointer (some ⟨rr, 0, none⟩), .agg #[.int .i64 x.k, .int .i64 x.n, .int .u64 x.s, os, vs]] w (PlayPost W r rr (m + 1)) := by
  have z0 : (x.k == 0) = false := by simp [k0]
  have z1 : (x.k == 1) = false := by simp [k1]
  have z2 : (x.k == 2) = false := by simp [k2]
  have z3 : (x.k == 3) = false := by simp [k3]
  have z4 : (x.k == 4) = false := by simp [k4]
  have z5 : (x.k == 5) = false := by simp [k5]
  clear k0 k1 k2 k3 k4 k5
  obtain ⟨hb1, hb2, hb3⟩ := hbd
  have HRel := Lib.hid hrel
  obtain ⟨sa, sc, rfl, -, -⟩ := hos
  obtain ⟨⟨A, vc, rfl, -⟩, -⟩ := hvs
  clear hrel
  obtain ⟨w1, q, hw1, hq, hq1, T1, ng1, nf1, lo1, hf1⟩ := h.new #[.int .i64 x.k, .int .i64 x.n, .int .u64 x.s, .slice sa x.o.length sc, .slice A x.v.length vc] 58
  have HW1 := Lib.hid hw1
  have HQ := Lib.hid hq
  have c0 := hq1.cell 0 rfl
  clear hw1 hq h hf1
  go_enter Try.func27, Try.ntmps27
  go_upto_region 1 with (fail)
  rw [← HW1.out, ← HQ.out]
  clear HW1 HQ
  have HT := Lib.hid T1
  clear T1
  go_wp2_with fail
  go_ret
  exact ⟨rfl, _, _, _, _, _, HT.out, HRel.out, by omega, by omega, by omega⟩
set_option maxRecDepth 100000 in
theorem play_any :
    Calls Try.prog 27 #[.pointer (some ⟨r, 0, none⟩), .pointer (some ⟨rr, 0, none⟩), .agg #[.int .i64 x.k, .int .i64 x.n, .int .u64 x.s, os, vs]] w (PlayPost W r rr (m + 1)) := by
  by_cases k0 : x.k = 0
  · rw [k0]; exact play_prm0 W w r rr c m p st G F x os vs h hrel hbd hm hos hvs hsh
  by_cases k1 : x.k = 1
  · rw [k1]; exact play_prm1 W w r rr c m p st G F x os vs h hrel hbd hm hos hvs hsh
  by_cases k2 : x.k = 2
  · rw [k2]; exact play_pro2 W w r rr c m p st G F x os vs h hrel hbd hm hs64 hos hvs hsh
  by_cases k3 : x.k = 3
  · rw [k3]; exact play_pro3 W w r rr c m p st G F x os vs h hrel hbd hm hs64 hos hvs hsh
  by_cases k4 : x.k = 4
  · rw [k4]; exact play_acc4 W w r rr c m p st G F x os vs h hrel hbd hm hs64 hos hvs hsh
  by_cases k5 : x.k = 5
  · rw [k5]; exact play_acc5 W w r rr c m p st G F x os vs h hrel hbd hm hs64 hos hvs hsh
  exact play_none W w r rr c m p st G F x os vs h hrel hbd hos hvs k0 k1 k2 k3 k4 k5
end
end Go.Proofs.Ytliljjlegofmkaa
