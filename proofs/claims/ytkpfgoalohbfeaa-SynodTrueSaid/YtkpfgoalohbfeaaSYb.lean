/- SynodTrue. -/
import Derived.Test.YtkpfgoalohbfeaaSYc
namespace Go.Proofs.Ytkpfgoalohbfeaa
open Go.RowKit

/-! ### rows of bytes of the law's own, their bytes what came in -/
structure BsR (W w : World) (v : Value) (ls : List (List UInt8)) (vs : List Value) : Prop where
  row : w.ownsRow W.heap.size 31 1 v ls.length vs
  len : vs.length = ls.length
  byt : ∀ (i : Nat) (p : List UInt8) (u : Value), ls[i]? = some p → vs[i]? = some u → Byt W u p
  fr : Fr (fun _ => False) W w
section
variable {W w w' : World} {v v' u : Value} {ls : List (List UInt8)} {vs : List Value} {X : Nat → Prop} {bs : List UInt8}
theorem BsR.up (h : BsR W w v ls vs) (hf : Fr (fun _ => False) w w') : BsR W w' v ls vs := ⟨own_fr h.row hf (fun _ _ h => h), h.len, h.byt, h.fr.tr hf⟩
theorem BsR.off (h : BsR W w v ls vs) (hf : Fr X w w') (hx : ∀ k, X k → W.heap.size ≤ k) (hv : ∀ k, v.ownBlock = some k → ¬ X k) : BsR W w' v ls vs :=
  ⟨own_fr h.row hf hv, h.len, h.byt, h.fr.trans hf (fun k hk h => h.elim id (fun h => by have := hx k h; omega))⟩
theorem BsR.form (h : BsR W w v ls vs) : ∃ a c, v = .slice a ls.length c := own_sl5 h.row
theorem BsR.at (h : BsR W w v ls vs) {j : Nat} {p : List UInt8} (hp : ls[j]? = some p) : ∃ g lc u, v = .slice (some ⟨g, 0, none⟩) ls.length lc ∧ Byt w u p ∧ w.cell? ⟨g, j, none⟩ = some u := by
  have hj := (List.getElem?_eq_some_iff.1 hp).1
  have hjv : j < vs.length := by rw [h.len]; exact hj
  have hrow := h.row
  rcases own_form hrow with ⟨rfl, hL, _⟩ | ⟨g, cap, cur, rfl, _⟩
  · omega
  · exact ⟨g, cap, vs[j], rfl, (h.byt j p _ hp (List.getElem?_eq_getElem hjv)).fr h.fr (fun _ _ h => h), own_cell (own_base hrow) _ (List.getElem?_eq_getElem hjv)⟩
theorem BsR.more (h : BsR W w v ls vs) (hs : Byt W u bs) (ha : Appended W.heap.size 31 1 w v ls.length 1 vs [u] v' w') : BsR W w' v' (ls ++ [bs]) (vs ++ [u]) := by
  refine ⟨?_, by simp [h.len], fun i p x hp hx => ?_, ha.fr h.fr (fun k hk hlt => by have := (h.row.lt k hk).1; omega)⟩
  · rw [List.length_append, List.length_singleton]; exact ha.1
  · by_cases hi : i < ls.length
    · rw [List.getElem?_append_left hi] at hp
      rw [List.getElem?_append_left (by rw [h.len]; exact hi)] at hx
      exact h.byt i p x hp hx
    · have hi' : i = ls.length := by
        have := (List.getElem?_eq_some_iff.1 hp).1
        simp at this; omega
      subst hi'
      rw [List.getElem?_append_right (Nat.le_refl _)] at hp
      rw [List.getElem?_append_right (by rw [h.len]; exact Nat.le_refl _), h.len] at hx
      simp at hp hx
      subst hp hx
      exact hs
end
theorem bsinfo : (Try.prog.info? 31).map (fun i => (i.zero, i.size, i.bytes)) = some (some (.slice none 0 0), 1, 24) := by kernel_rfl

set_option maxRecDepth 100000 in
set_option maxHeartbeats 4000000 in
theorem among_any (W : World) (v u : Value) (ls : List (List UInt8)) (vs : List Value) (bs : List UInt8) (w : World) (h : BsR W w v ls vs) (hu : Byt w u bs) (hin : bs ∈ ls) (hl : ls.length ≤ 1000) :
    Calls Try.prog 18 #[v, u] w fun e w' => e = .returned (.bool true) ∧ w = w' := by
  obtain ⟨va, vc, rfl⟩ := h.form
  have H := Lib.hid (And.intro h hu)
  have hu0 := hu
  obtain ⟨ua, uc, rfl, -, -⟩ := hu0
  have HIn := Lib.hid hin
  clear h hu hin
  go_enter Try.func18, Try.ntmps18
  go_wp2_with fail
  go_loopg [5] ls.length (fun g x5 wr => ∃ (j : Nat), j + g = ls.length ∧ x5 = .int .i64 j ∧ bs ∈ ls.drop j ∧ w = wr)
  case atStart => exact ⟨0, by omega, rfl, by simpa using HIn.out, rfl⟩
  case round =>
    obtain ⟨j, hj, rfl, hin, rfl⟩ := hrel
    have HJ := Lib.hid (And.intro hj hin)
    have hj' : j ≤ ls.length := by omega
    clear hj hin
    by_cases hjl : j < ls.length
    · obtain ⟨p, hp⟩ : ∃ p, ls[j]? = some p := ⟨_, List.getElem?_eq_getElem hjl⟩
      obtain ⟨g, lc, x, e, hb, hx⟩ := H.out.1.at hp
      injection e with e1 _ e2
      subst e1 e2
      have hj0 : (0 : Int) ≤ (j : Int) := by omega
      have hj1 : (j : Int) < (ls.length : Int) := by omega
      have hsm := same_any x (.slice ua bs.length uc) p bs w hb H.out.2
      obtain ⟨xa, xc, rfl, -, -⟩ := hb
      have HSm := Lib.hid hsm
      have HP := Lib.hid hp
      clear hsm hp
      by_cases he : p = bs
      · rw [decide_eq_true he] at HSm
        clear he
        go_wp2_with fail
        refine HSm.out.mono ?_
        rintro e w4 ⟨rfl, rfl⟩
        go_wp2_with fail
        go_ret
        exact ⟨rfl, rfl⟩
      · rw [decide_eq_false he] at HSm
        have HE := Lib.hid he
        clear he
        go_wp2_with fail
        refine HSm.out.mono ?_
        rintro e w4 ⟨rfl, rfl⟩
        go_wp2_with fail
        go_roundg (ls.length - (j + 1))
        case measure => have := HJ.out.1; omega
        case rel =>
          refine ⟨j + 1, by have := HJ.out.1; omega, by go_num, ?_, rfl⟩
          have h2 := HJ.out.2
          rw [drop_cons HP.out] at h2
          rcases List.mem_cons.1 h2 with h2 | h2
          · exact absurd h2.symm HE.out
          · exact h2
    · exfalso
      have h2 := HJ.out.2
      rw [List.drop_of_length_le (by omega)] at h2
      cases h2

/-- The values that rooms may have. -/
def Vals (ls : List (List UInt8)) (v : List UInt8) : Prop := v ∈ ls ∧ v.length ≤ 100
/-- Twelve marks in a block. -/
def MarkR (w : World) (b : Nat) (t : Nat → Bool) : Prop := ∃ cs, Blk w b 40 cs ∧ cs.size = 12 ∧ ∀ i, i < 12 → cs[i]? = some (.bool (t i))
section
variable {W w w' : World} {b r nb c c' i : Nat} {t : Nat → Bool} {st st' : Sy} {g g' : Gh} {G F G' F' X : Nat → Prop} {v v' : Value} {ls : List (List UInt8)} {vs : List Value}
theorem MarkR.fr (h : MarkR w b t) (hf : Fr X w w') (hx : ¬ X b) : MarkR w' b t := by
  obtain ⟨cs, h1, h2, h3⟩ := h
  exact ⟨cs, h1.fr hf hx, h2, h3⟩
theorem MarkR.at (h : MarkR w b t) (hi : i < 12) : w.cell? ⟨b, i, none⟩ = some (.bool (t i)) := by
  obtain ⟨cs, h1, h2, h3⟩ := h
  exact h1.cell _ (h3 i hi)
theorem MarkR.frozen (h : MarkR w b t) (i : Nat) : w.frozen? ⟨b, i, none⟩ = false := by
  obtain ⟨cs, h1, h2, h3⟩ := h
  exact h1.frozen i
theorem MarkR.put (h : MarkR w b t) (i : Nat) (x : Bool) : MarkR (w.setCell ⟨b, i, none⟩ (.bool x)) b (fun j => if j = i then x else t j) := by
  obtain ⟨cs, h1, h2, h3⟩ := h
  refine ⟨_, h1.set_ i (.bool x), by simp [h2], fun j hj => ?_⟩
  by_cases hij : j = i
  · subst hij
    simp only [if_true]
    rw [Array.getElem?_setIfInBounds_self_of_lt (by omega)]
  · simp only [if_neg hij]
    rw [Array.getElem?_setIfInBounds_ne (fun e => hij e.symm)]; exact h3 j hj
theorem MarkR.blk (h : MarkR w b t) : ∃ cs, Blk w b 40 cs := by obtain ⟨cs, h1, _⟩ := h; exact ⟨cs, h1⟩
/-- What SynodTrue has at the head of a round. -/
structure TruI (W w : World) (r nb : Nat) (st : Sy) (c : Nat) (g : Gh) (G F : Nat → Prop) (b : Nat) (t : Nat → Bool) (v : Value) (ls : List (List UInt8)) (vs : List Value) : Prop where
  lr : Lr W w r nb st c G F
  k : Kp st g (Vals ls)
  m : MarkR w b t
  bF : ¬ F b
  bW : W.heap.size ≤ b
  vr : BsR W w v ls vs
  vF : ∀ k, v.ownBlock = some k → ¬ F k
theorem TruI.up (h : TruI W w r nb st c g G F b t v ls vs) (hf : Fr (fun _ => False) w w') : TruI W w' r nb st c g G F b t v ls vs :=
  ⟨h.lr.up hf, h.k, h.m.fr hf (fun h => h), h.bF, h.bW, h.vr.up hf, h.vF⟩
theorem TruI.next (h : TruI W w r nb st c g G F b t v ls vs) {x : Ac} (hx : x.k = 0 → x.v.length ≤ 100 → x.v ∈ ls) (hT : RmTo w r nb (actS st x) c' G F w') : ∃ g' G' F', TruI W w' r nb (actS st x) c' g' G' F' b t v ls vs := by
  obtain ⟨G', F', h1, h2, h3⟩ := h.lr.next hT
  obtain ⟨g', k1, k2⟩ := h.k.act (fun _ h => h.2) x (fun h0 h1 => ⟨hx h0 h1, h1⟩)
  obtain ⟨cs, hB⟩ := h.m.blk
  refine ⟨g', G', F', h1, k1, h.m.fr h3 (fun hg => h.bF (h.lr.rm.GF _ hg)), fun hF => ?_, h.bW, h.vr.off h3 (fun k hk => h.lr.lo k (h.lr.rm.GF k hk)) (fun k hk hg => h.vF k hk (h.lr.rm.GF k hg)), fun k hk hF => ?_⟩
  · rcases h2 b hF with h4 | h4
    · exact h.bF h4
    · have := hB.lt; omega
  · rcases h2 k hF with h4 | h4
    · exact h.vF k hk h4
    · have := own_lt h.vr.row hk; omega
theorem TruI.put (h : TruI W w r nb st c g G F b t v ls vs) (i : Nat) (x : Bool) : TruI W (w.setCell ⟨b, i, none⟩ (.bool x)) r nb st c g G F b (fun j => if j = i then x else t j) v ls vs := by
  obtain ⟨cs, hB⟩ := h.m.blk
  have hf := Fr.set1 w b i (.bool x)
  exact ⟨h.lr.off hf (fun k hk => by subst hk; exact ⟨h.bF, h.bW⟩), h.k, h.m.put i x, h.bF, h.bW, h.vr.off hf (fun k hk => by subst hk; exact h.bW) (fun k hk => own_blk_ne h.vr.row hB (by decide) k hk), h.vF⟩
theorem Kp.mono {S S' : List UInt8 → Prop} (h : Kp st g S) (hS : ∀ v, S v → S' v) : Kp st g S' := ⟨h.inv.mono hS, h.wf⟩
theorem TruI.more {u : Value} {bs : List UInt8} (h : TruI W w r nb st c g G F b t v ls vs) (hs : Byt W u bs) (ha : Appended W.heap.size 31 1 w v ls.length 1 vs [u] v' w') : TruI W w' r nb st c g G F b t v' (ls ++ [bs]) (vs ++ [u]) := by
  have hf : Fr (fun k => v.ownBlock = some k) w w' := (Fr.refl _ w).grown ha.2.1 (fun k hk _ => hk)
  have hX : ∀ k, v.ownBlock = some k → ¬ F k ∧ W.heap.size ≤ k := fun k hk => ⟨h.vF k hk, (h.vr.row.lt k hk).1⟩
  obtain ⟨cs, hB⟩ := h.m.blk
  refine ⟨h.lr.off hf hX, h.k.mono (fun x hx => ⟨List.mem_append_left _ hx.1, hx.2⟩), h.m.fr hf (fun e => own_blk_ne h.vr.row hB (by decide) _ e rfl), h.bF, h.bW, h.vr.more hs ha, fun k hk => ?_⟩
  rcases ha.2.2 with e | e
  · rw [e] at hk; exact h.vF k hk
  · rw [e] at hk
    injection hk with hk
    subst hk
    exact h.lr.notF (Nat.le_refl _)
end

set_option maxRecDepth 100000 in
set_option maxHeartbeats 64000000 in
theorem true_law (q : Qu) (s : Value) (v : Value) (l : List Ac) (W : World) (hs : Ints W s q.s) (hnil : ∀ c, s = .slice none 0 c → c = 0) (hm : q.s.length ≤ maxLen) (hv : AcL W v l (fun k => W.heap.size ≤ k)) :
    Calls Try.prog 4 #[q.v s, v] W fun e w' => e = .returned (.bool true) ∧ Below W.heap.size W w' := by
  obtain ⟨ib, hib0, hiz0, hiz1, hiz2⟩ := info_parts bsinfo
  have hs0 := hs
  obtain ⟨A, c, rfl, -⟩ := hs0
  obtain ⟨w1, hw1⟩ : ∃ w1, w1 = (W.alloc (.cells #[.int .i64 q.k, .int .i64 q.n, .int .i64 q.o, .int .i64 q.t, .slice A q.s.length c] 24)) := ⟨_, rfl⟩
  have hf : Fr (fun _ => False) W w1 := by rw [hw1]; exact ((Fr.refl _ W).alloc _)
  have hb1 : Blk w1 W.heap.size 24 #[.int .i64 q.k, .int .i64 q.n, .int .i64 q.o, .int .i64 q.t, .slice A q.s.length c] := by rw [hw1]; exact (Blk.new _ _ _)
  obtain ⟨bq, hbq⟩ : ∃ b, b = W.heap.size := ⟨_, rfl⟩
  rw [← hbq] at hb1
  have hroom := room_any q (.slice A q.s.length c) w1 (hs.up hf) hnil hm
  simp only [Qu.v] at hroom
  have HRoom := Lib.hid hroom
  have HW := Lib.hid (And.intro hw1 hbq)
  have HF := Lib.hid hf
  have HV := Lib.hid hv
  obtain ⟨va, vc, rfl, hll, hat0⟩ := hv
  have HAt := Lib.hid hat0
  unfold maxLen at hll
  simp only [Qu.v]
  clear hw1 hbq hf hs hm hnil hroom hat0
  go_enter Try.func4, Try.ntmps4
  go_upto_region 1 with (fail)
  rw [← HW.out.1, ← HW.out.2]
  clear HW
  have b0 := hb1.cell 0 rfl
  have b1 := hb1.cell 1 rfl
  have b2 := hb1.cell 2 rfl
  have b3 := hb1.cell 3 rfl
  have b4 := hb1.cell 4 rfl
  have bf := hb1.frozen
  go_wp2_with fail
  refine HRoom.out.mono ?_
  rintro e w2 ⟨r, nb, q', G, F, rfl, hq', hl', hL⟩
  have hL2 : Lr W w2 r nb (room0 q') 0 G F := ⟨hL.rm, fun k hk => Nat.le_trans HF.out.size (hL.lo k hk), HF.out.tr hL.fr⟩
  have hK := Kp.new hq' hl' (Vals [])
  obtain ⟨N, hN⟩ : ∃ N, N = (room0 q').N := ⟨_, rfl⟩
  rw [← hN]
  have hN12 : N ≤ 12 := by rw [hN]; exact hL.rm.wf.n12.2.1
  have hN1 : 1 ≤ N := by rw [hN]; exact hL.rm.wf.n12.1
  have HO := Lib.hid (And.intro hL2 (And.intro hK hN))
  have hlong := along_any (.slice va l.length vc) l _ w2 (HV.out.up hL2.fr (fun _ h => h.elim))
  have HLong := Lib.hid hlong
  clear b0 b1 b2 b3 b4 bf hb1 hL hL2 hK hlong HRoom hq' hl' hN
  go_wp2_with fail
  refine HLong.out.mono ?_
  rintro e w3 ⟨b, rfl, rfl, hsh⟩
  cases b with
  | true =>
    go_wp2_with fail
    refine (known_any w2).mono ?_
    rintro e w3 ⟨rfl, hf3⟩
    have HF3 := Lib.hid (HO.out.1.fr.tr hf3)
    clear hf3
    go_wp2_with fail
    go_ret
    exact ⟨rfl, (HF3.out.mono (fun _ _ h => h.elim) : Fr (fun k => W.heap.size ≤ k) W _).below (Nat.le_refl _)⟩
  | false =>
    have HSh := Lib.hid (hsh rfl)
    clear hsh HLong
    obtain ⟨w3, hw3⟩ : ∃ w3, w3 = w2.alloc (.cells #[.bool false, .bool false, .bool false, .bool false, .bool false, .bool false, .bool false, .bool false, .bool false, .bool false, .bool false, .bool false] 40) := ⟨_, rfl⟩
    obtain ⟨bl, hbl⟩ : ∃ b, b = w2.heap.size := ⟨_, rfl⟩
    have hf3 : Fr (fun _ => False) w2 w3 := by rw [hw3]; exact (Fr.refl _ w2).alloc _
    have hLa : MarkR w3 bl (fun _ => false) := by
      refine ⟨_, by rw [hw3, hbl]; exact Blk.new _ _ _, rfl, fun i hi => ?_⟩
      match i, hi with
      | 0, _ | 1, _ | 2, _ | 3, _ | 4, _ | 5, _ | 6, _ | 7, _ | 8, _ | 9, _ | 10, _ | 11, _ => rfl
    have hVI : TruI W w3 r nb (room0 q') 0 gh0 G F bl (fun _ => false) (.slice none 0 0) [] [] :=
      ⟨HO.out.1.up hf3, HO.out.2.1, hLa, by rw [hbl]; exact HO.out.1.notF (Nat.le_refl _), by rw [hbl]; exact HO.out.1.fr.size, ⟨World.ownsRow_nil _ _ _ _, rfl, fun i p s h => (by simp at h), HO.out.1.fr.tr hf3⟩, fun k h => (by simp [Value.ownBlock] at h)⟩
    have HVI := Lib.hid hVI
    have HW3 := Lib.hid (And.intro hw3 hbl)
    clear hw3 hbl hf3 hLa hVI
    go_upto_region 6 with (fail)
    rw [← HW3.out.1, ← HW3.out.2]
    clear HW3
    go_wp2_with fail
    go_loopg [7, 9] l.length (fun g x7 x9 wr => ∃ (i : Nat) (va : Option Addr) (vc : Nat) (ls : List (List UInt8)) (vs : List Value) (t : Nat → Bool) (st : Sy) (cc : Nat) (gh : Gh) (G F : Nat → Prop), i + g = l.length ∧ i ≤ 150 ∧ ls.length ≤ i ∧ x9 = .int .i64 i ∧ x7 = .slice va ls.length vc ∧ cc ≤ 120 * i ∧ N = st.N ∧ (∀ j, j < N → t j = true → (st.nd j).kn = true) ∧ TruI W wr r nb st cc gh G F bl t (.slice va ls.length vc) ls vs)
    case atStart => exact ⟨0, none, 0, [], [], _, _, 0, _, G, F, by omega, by omega, by simp, rfl, rfl, by omega, HO.out.2.2, fun _ _ h => (by cases h), HVI.out⟩
    case round =>
      clear HO HVI
      obtain ⟨i, sa, sc, ls, vs, t, st, cc, gh, G1, F1, hi, hi150, hls, rfl, rfl, hcc, hN, ht, hO⟩ := hrel
      have HI := Lib.hid (And.intro hi (And.intro hcc (And.intro hN (And.intro hls ht))))
      have hi' : i ≤ l.length := by omega
      clear hi hcc hN hls ht
      by_cases hlt : i < l.length ∧ i < 150
      · obtain ⟨hlt, hlt2⟩ := hlt
        have hlt3 : (i : Int) < 150 := by omega
        obtain ⟨x, hx⟩ : ∃ x, l[i]? = some x := ⟨_, List.getElem?_eq_getElem hlt⟩
        obtain ⟨b, off, vsx, rfl, hat⟩ := HAt.out i x hx
        have hxl := HSh.out i x hlt (by omega) hx
        have hat' := hat.up hO.lr.fr (fun _ h => h.elim)
        obtain ⟨ya, yc, rfl, -, -⟩ := hat'.own
        have HX := Lib.hid hat
        have q0 := hat'.c0
        have q1 := hat'.c1
        have q2 := hat'.c2
        have HO := Lib.hid hO
        have hll0 : ls.length ≤ 150 := by have := HI.out.2.2.2.1; omega
        clear hat hat' hx hO
        have hcs : (x.k = 0 ∧ x.v.length ≤ 100) ∨ (x.k = 0 ∧ ¬ x.v.length ≤ 100) ∨ ¬ x.k = 0 := by omega
        rcases hcs with ⟨k0, k1⟩ | ⟨k0, k1⟩ | k0
        case' inl =>
          have k0' : (x.k == 0) = true := by simp [k0]
          have k1' : (x.v.length : Int) ≤ 100 := by omega
          obtain ⟨w4, hw4⟩ : ∃ w4, w4 = wr.alloc (.cells #[.slice ya x.v.length yc] 31) := ⟨_, rfl⟩
          have hf4 : Fr (fun _ => False) wr w4 := by rw [hw4]; exact (Fr.refl _ wr).alloc _
          have hO4 := HO.out.up hf4
          have hn4 : ∀ j u, [Value.slice ya x.v.length yc][j]? = some u → w4.cell? (Addr.add ⟨wr.heap.size, 0, none⟩ j) = some u := by
            rw [hw4]; exact World.news_of_block (cs := #[.slice ya x.v.length yc]) (t := 31) (fr := (0, 0)) (heap_alloc_new wr _)
          have hrow := hO4.vr.row
          have hz4 := hO4.lr.fr.size
          have HW4 := Lib.hid hw4
          have HO4 := Lib.hid hO4
          have HK := Lib.hid k0
          clear hw4 hO4 hf4 HO k0
          go_upto_region 11 with (first
            | (at_builtin
               rw [← HW4.out]
               clear HW4
               refine wpList_bi2 rfl .append _ _ _ _ _ rfl rfl rfl _ (ap_cells (base := W.heap.size) Try.underlying39 hib0 hiz0 hiz1 hiz2 rfl (by omega) hrow ⟨wr.heap.size, 0, none⟩ 1 1 [.slice ya x.v.length yc] rfl hn4 (by simp [Value.oneCell']) (by unfold maxLen; omega) (by omega) hz4) ?_
               rintro v' w5 hap))
          have hO5 := HO4.out.more HX.out.own hap
          obtain ⟨va5, vc5, rfl⟩ := hO5.vr.form
          rw [List.length_append, List.length_singleton] at hO5 ⊢
          obtain ⟨ls5, hls5⟩ : ∃ ls5, ls5 = ls ++ [x.v] := ⟨_, rfl⟩
          have hlen : ls.length + 1 = ls5.length := by rw [hls5]; simp
          have hx5 : x.k = 0 → x.v.length ≤ 100 → x.v ∈ ls5 := fun _ _ => by rw [hls5]; simp
          rw [← hls5] at hO5
          rw [hlen] at hO5 ⊢
          have HX5 := Lib.hid hx5
          have hl5 : ls5.length ≤ i + 1 := by have := HI.out.2.2.2.1; omega
          obtain ⟨vs5, hvs5⟩ : ∃ vs5, vs5 = vs ++ [Value.slice ya x.v.length yc] := ⟨_, rfl⟩
          rw [← hvs5] at hO5
          have HO5 := Lib.hid hO5
          clear hls5 hlen hx5 hvs5 hap hO5 HO4 q0 q1 q2 k1 k0' k1'
        case' inr.inl =>
          have k0' : (x.k == 0) = true := by simp [k0]
          have k1' : ¬ (x.v.length : Int) ≤ 100 := by omega
          have hx5 : x.k = 0 → x.v.length ≤ 100 → x.v ∈ ls := fun _ h => absurd h k1
          clear k0
          go_upto_region 11 with (fail)
          obtain ⟨w5, hw5⟩ : ∃ w5, w5 = wr := ⟨_, rfl⟩
          obtain ⟨ls5, hls5⟩ : ∃ ls5, ls5 = ls := ⟨_, rfl⟩
          obtain ⟨vs5, hvs5⟩ : ∃ vs5, vs5 = vs := ⟨_, rfl⟩
          obtain ⟨va5, hva5⟩ : ∃ va5, va5 = sa := ⟨_, rfl⟩
          obtain ⟨vc5, hvc5⟩ : ∃ vc5, vc5 = sc := ⟨_, rfl⟩
          have hO5 := HO.out
          rw [← hw5, ← hls5, ← hvs5, ← hva5, ← hvc5] at hO5
          rw [← hw5] at q0 q1 q2
          rw [← hw5, ← hls5, ← hva5, ← hvc5]
          have HX5 := Lib.hid hx5
          have hl5 : ls5.length ≤ i + 1 := by have := HI.out.2.2.2.1; rw [hls5]; omega
          rw [← hls5] at HX5
          have HO5 := Lib.hid hO5
          clear hls5 hx5 hvs5 hw5 hva5 hvc5 hO5 HO q0 q1 q2 k1 k0' k1'
        case' inr.inr =>
          have k0' : (x.k == 0) = false := by simp [k0]
          have hx5 : x.k = 0 → x.v.length ≤ 100 → x.v ∈ ls := fun h => absurd h k0
          clear k0
          go_upto_region 11 with (fail)
          obtain ⟨w5, hw5⟩ : ∃ w5, w5 = wr := ⟨_, rfl⟩
          obtain ⟨ls5, hls5⟩ : ∃ ls5, ls5 = ls := ⟨_, rfl⟩
          obtain ⟨vs5, hvs5⟩ : ∃ vs5, vs5 = vs := ⟨_, rfl⟩
          obtain ⟨va5, hva5⟩ : ∃ va5, va5 = sa := ⟨_, rfl⟩
          obtain ⟨vc5, hvc5⟩ : ∃ vc5, vc5 = sc := ⟨_, rfl⟩
          have hO5 := HO.out
          rw [← hw5, ← hls5, ← hvs5, ← hva5, ← hvc5] at hO5
          rw [← hw5] at q0 q1 q2
          rw [← hw5, ← hls5, ← hva5, ← hvc5]
          have HX5 := Lib.hid hx5
          have hl5 : ls5.length ≤ i + 1 := by have := HI.out.2.2.2.1; rw [hls5]; omega
          rw [← hls5] at HX5
          have HO5 := Lib.hid hO5
          clear hls5 hx5 hvs5 hw5 hva5 hvc5 hO5 HO q0 q1 q2 k0'
        all_goals
          have hat' := HX.out.up HO5.out.lr.fr (fun _ h => h.elim)
          have hplay := play_any r nb st cc G1 F1 x (.slice ya x.v.length yc) w5 HO5.out.lr.rm hat'.own (fun k hk hne hg => by
            have h1 := HX.out.ox k hk hne; have h2 := HO5.out.lr.lo k (HO5.out.lr.rm.GF k hg); omega) hxl (by have := HI.out.2.1; unfold maxLen; omega)
          rw [← HI.out.2.2.1] at hplay
          have q0 := hat'.c0
          have q1 := hat'.c1
          have q2 := hat'.c2
          have HPl := Lib.hid hplay
          clear hat' hplay
          go_wp2_with fail
          refine HPl.out.mono ?_
          rintro e w6 ⟨rfl, hT⟩
          obtain ⟨gh6, G6, F6, hO6⟩ := HO5.out.next HX5.out hT
          have hkn6 : ∀ j, j < N → t j = true → (x.k = 7 → j ≠ atI x.a N) → ((actS st x).nd j).kn = true := fun j hj htj h7 =>
            (act_go st x).2 j (fun h => by rw [← HI.out.2.2.1]; exact h7 h) (HI.out.2.2.2.2 j hj htj)
          have hN6 : N = (actS st x).N := HI.out.2.2.1.trans (act_go st x).1.N.symm
          obtain ⟨st6, hst6⟩ : ∃ st6, st6 = actS st x := ⟨_, rfl⟩
          rw [← hst6] at hO6 hN6 hkn6
          have HN6 := Lib.hid hN6
          have hat6 := HX.out.up hO6.lr.fr (fun _ h => h.elim)
          have HKn := Lib.hid hkn6
          clear hT hN6 hst6 q0 q1 q2 HPl HO5 hkn6 HX5
          have q0 := hat6.c0
          have q1 := hat6.c1
          clear hat6
          by_cases h7 : x.k = 7
          case' pos =>
            have h7' : (x.k == 7) = true := by simp [h7]
            obtain ⟨ai, hai⟩ : ∃ ai, ai = atI x.a N := ⟨_, rfl⟩
            have hai12 : ai < 12 := by
              have := atI_lt (a := x.a) (show 0 < N by omega)
              omega
            have hat := at_any x.a N (by omega) w6
            rw [← hai] at hat
            have HA := Lib.hid hat
            have a0 : (0 : Int) ≤ (ai : Int) := by omega
            have a1 : (ai : Int) < 12 := by omega
            have f0 := hO6.m.frozen ai
            have e0 := hO6.m.at hai12
            obtain ⟨w7, hw7⟩ : ∃ w7, w7 = w6.setCell ⟨bl, ai, none⟩ (.bool false) := ⟨_, rfl⟩
            have hO7 := hO6.put ai false
            rw [← hw7] at hO7
            obtain ⟨t7, ht7⟩ : ∃ t7 : Nat → Bool, t7 = fun j => if j = ai then false else t j := ⟨_, rfl⟩
            rw [← ht7] at hO7
            have hk7 : ∀ j, j < N → t7 j = true → (st6.nd j).kn = true := fun j hj h => by
              rw [ht7] at h
              simp only at h
              by_cases hj2 : j = ai
              · rw [if_pos hj2] at h; cases h
              · rw [if_neg hj2] at h; exact HKn.out j hj h (fun _ => by rw [← hai]; exact hj2)
            have HW7 := Lib.hid hw7
            have HO7 := Lib.hid hO7
            have HK7 := Lib.hid hk7
            clear hw7 hO7 hk7 ht7 hat hai hai12 hO6 h7
            go_wp2_with fail
            refine HA.out.mono ?_
            rintro e w8 ⟨rfl, rfl⟩
            go_upto_region 14 with (fail)
            rw [← HW7.out]
            clear HW7 HA f0 e0 q0 q1 a0 a1 h7' HKn
          case' neg =>
            have h7' : (x.k == 7) = false := by simp [h7]
            have hk7 : ∀ j, j < N → t j = true → (st6.nd j).kn = true := fun j hj h => HKn.out j hj h (fun h => absurd h h7)
            clear HKn h7
            go_upto_region 14 with (fail)
            obtain ⟨w7, hw7⟩ : ∃ w7, w7 = w6 := ⟨_, rfl⟩
            obtain ⟨t7, ht7⟩ : ∃ t7, t7 = t := ⟨_, rfl⟩
            rw [← hw7, ← ht7] at hO6
            rw [← ht7] at hk7
            rw [← hw7]
            have HO7 := Lib.hid hO6
            have HK7 := Lib.hid hk7
            clear hO6 hk7 hw7 ht7 q0 q1 h7'
          all_goals
            go_wp2_with fail
            go_loopg [10] N (fun g x10 wr => ∃ (k : Nat) (t : Nat → Bool), k + g = N ∧ x10 = .int .i64 k ∧ (∀ j, j < N → t j = true → (st6.nd j).kn = true) ∧ TruI W wr r nb st6 (cc + 120) gh6 G6 F6 bl t (.slice va5 ls5.length vc5) ls5 vs5)
            case atStart => exact ⟨0, t7, by omega, rfl, HK7.out, HO7.out⟩
            case round =>
              clear HO7 HK7
              obtain ⟨k, t, hk, rfl, ht, hO⟩ := hrel
              have HK := Lib.hid (And.intro hk ht)
              have hk' : k ≤ N := by omega
              clear hk ht
              by_cases hkN : k < N
              · have hin : inSy st6 (k : Int) = true := by
                  unfold inSy
                  rw [decide_eq_true_eq]
                  have h1 := hO.lr.rm.wf.n12.2.2
                  have h2 := HN6.out
                  omega
                have hkst : k < st6.N := by rw [← HN6.out]; exact hkN
                have hk12 : k < 12 := by omega
                have hk0i : (0 : Int) ≤ (k : Int) := by omega
                have hk12i : (k : Int) < 12 := by omega
                have hlr := lrn_any r nb st6 (cc + 120) G6 F6 (k : Int) wr hO.lr.rm
                have hln : lrnB st6 (k : Int) = if (st6.nd k).kn = true then some (st6.nd k).ln else none := by
                  unfold lrnB
                  rw [Int.toNat_natCast]
                  simp only [hin, true_and]
                have hin2 := hO.k.inv.nd k hkst
                have hwn := hO.k.wf.nd k hkst
                have hpr : ∀ V, V = (st6.nd k).vt → (V.s = 0 ∨ V.s = 1) ∧ (V.s = 1 → V.v ∈ ls5) := fun V hV => by
                  rw [hV]
                  rcases hin2.vt with ⟨h1, _⟩ | ⟨h1, _, h3, _⟩
                  · exact ⟨.inl h1, fun h => by omega⟩
                  · exact ⟨.inr h1, fun _ => (hO.k.inv.used _ _ _ h3).2.1⟩
                have hvl : (st6.nd k).vt.v.length ≤ 100 := hwn.vt.l
                have hlin : ∀ u, lrnB st6 (k : Int) = some u → u ∈ ls5 := fun u hu => by
                  obtain ⟨n, d, X, c1, _⟩ := hO.k.lrn hu
                  exact (hO.k.inv.used _ _ _ c1).2.1
                have hvo : ∀ w, Rm w r nb st6 (cc + 120) G6 F6 → Calls Try.prog 17 #[.pointer (some ⟨r, 0, none⟩), .int .i64 (k : Int)] w fun e w' => VotedP w w' (st6.nd k).pn (st6.nd k).pd (st6.nd k).vt e := fun w h => by
                  have h2 := voted_any r nb st6 (cc + 120) G6 F6 (k : Int) w h
                  rw [show votN st6 (k : Int) = (st6.nd k).pn by unfold votN; rw [if_pos hin, Int.toNat_natCast], show votD st6 (k : Int) = (st6.nd k).pd by unfold votD; rw [if_pos hin, Int.toNat_natCast], show votV st6 (k : Int) = (st6.nd k).vt by unfold votV; rw [if_pos hin, Int.toNat_natCast]] at h2
                  exact h2
                have hl5' : ls5.length ≤ 1000 := by omega
                obtain ⟨L, hL⟩ : ∃ L, L = lrnB st6 (k : Int) := ⟨_, rfl⟩
                rw [← hL] at hlr hlin hln
                obtain ⟨kn, hkn⟩ : ∃ kn, kn = (st6.nd k).kn := ⟨_, rfl⟩
                have htk : t k = true → kn = true := fun h => by rw [hkn]; exact HK.out.2 k hkN h
                have hkn2 : L.isSome = kn := by rw [hln, hkn]; cases (st6.nd k).kn <;> rfl
                obtain ⟨V, hV⟩ : ∃ V, V = (st6.nd k).vt := ⟨_, rfl⟩
                have HPr := Lib.hid (hpr V hV)
                rw [← hV] at hvo hvl
                have HLr := Lib.hid hlr
                have HVo := Lib.hid hvo
                have HLin := Lib.hid hlin
                have HKn := Lib.hid (And.intro hkn (And.intro htk hkn2))
                have HO := Lib.hid hO
                clear hlr hln hin2 hwn hpr hlin hvo hL hkn htk hkn2 hV hO hin hkst
                go_wp2_with fail
                refine HLr.out.mono ?_
                rintro e w8 ⟨za, zc, rfl, ho8, hf8⟩
                have hO8 := HO.out.up hf8
                have HO8 := Lib.hid (And.intro hO8 ho8)
                have HVo8 := Lib.hid (HVo.out w8 hO8.lr.rm)
                clear hO8 ho8 hf8 HO HVo HLr
                go_wp2_with fail
                refine HVo8.out.mono ?_
                rintro e w9 ⟨xa, xc, rfl, ho9, hf9⟩
                obtain ⟨pn, hpn⟩ : ∃ pn, pn = (st6.nd k).pn := ⟨_, rfl⟩
                obtain ⟨pd, hpd⟩ : ∃ pd, pd = (st6.nd k).pd := ⟨_, rfl⟩
                rw [← hpn, ← hpd]
                obtain ⟨w10, hw10⟩ : ∃ w10, w10 = (w9.alloc (.cells #[.int .u64 (pn : Int), .int .i64 pd] 44)).alloc (.cells #[.int .u64 V.s, .int .u64 V.n, .int .i64 V.d, .slice xa V.v.length xc] 46) := ⟨_, rfl⟩
                have hf10 : Fr (fun _ => False) w9 w10 := by rw [hw10]; exact ((Fr.refl _ w9).alloc _).alloc _
                have hC10 : Blk w10 (w9.heap.size + 1) 46 #[.int .u64 V.s, .int .u64 V.n, .int .i64 V.d, .slice xa V.v.length xc] := by
                  have := Blk.new (w9.alloc (.cells #[.int .u64 (pn : Int), .int .i64 pd] 44)) 46 #[.int .u64 V.s, .int .u64 V.n, .int .i64 V.d, .slice xa V.v.length xc]
                  rw [hw10]; simpa using this
                have hO10 := (HO8.out.1.up hf9).up hf10
                have hby1 : Byt w10 (.slice za (L.getD []).length zc) (L.getD []) := Byt.of_own (own_fr (own_base HO8.out.2) (hf9.tr hf10) (fun _ _ h => h))
                have hby2 : Byt w10 (.slice xa V.v.length xc) V.v := Byt.of_own (own_fr (own_base ho9) hf10 (fun _ _ h => h))
                obtain ⟨bb, hbb⟩ : ∃ b, b = w9.heap.size := ⟨_, rfl⟩
                rw [← hbb] at hC10
                have HW10 := Lib.hid (And.intro hw10 hbb)
                have HB := Lib.hid (And.intro hby1 hby2)
                have HO10 := Lib.hid hO10
                clear hw10 hbb hf10 hf9 ho9 hby1 hby2 HO8 HVo8 hpn hpd
                go_upto_region 19 with (fail)
                rw [← HW10.out.1, ← HW10.out.2]
                clear HW10
                have c0 := hC10.cell 0 rfl
                have c2 := hC10.cell 3 rfl
                have m0 := hO10.m.at hk12
                have mf := hO10.m.frozen k
                obtain ⟨tk, htk⟩ : ∃ tk, tk = t k := ⟨_, rfl⟩
                rw [← htk] at m0
                have HTk := Lib.hid htk
                obtain ⟨w11, hw11⟩ : ∃ w11, w11 = w10.setCell ⟨bl, k, none⟩ (.bool L.isSome) := ⟨_, rfl⟩
                have hO11 := hO10.put k L.isSome
                rw [← hw11] at hO11
                obtain ⟨t11, ht11⟩ : ∃ t11 : Nat → Bool, t11 = fun j => if j = k then L.isSome else t j := ⟨_, rfl⟩
                rw [← ht11] at hO11
                have hk11 : ∀ j, j < N → t11 j = true → (st6.nd j).kn = true := fun j hj h => by
                  rw [ht11] at h
                  simp only at h
                  by_cases hj2 : j = k
                  · subst hj2; rw [if_pos rfl, HKn.out.2.2, HKn.out.1] at h; exact h
                  · rw [if_neg hj2] at h; exact HK.out.2 j hj h
                have HFin := Lib.hid (And.intro hO11 hk11)
                have HW11 := Lib.hid hw11
                clear hO11 hk11 ht11 hw11 hO10 hC10 htk
                have hL : L = none ∨ ∃ u, L = some u := by cases L with | none => exact .inl rfl | some u => exact .inr ⟨u, rfl⟩
                have hVs : V.s = 0 ∨ V.s = 1 := HPr.out.1
                rcases hVs with h0 | h1
                case' inl =>
                  have hs : ¬ (0 : Int) < (V.s : Int) := by omega
                  clear h0
                case' inr =>
                  have hs : (0 : Int) < (V.s : Int) := by omega
                  have hvam := among_any W (.slice va5 ls5.length vc5) (.slice xa V.v.length xc) ls5 vs5 V.v w10 HO10.out.vr HB.out.2 (HPr.out.2 h1) hl5'
                  have HVa := Lib.hid hvam
                  clear h1 hvam
                all_goals
                  rcases hL with rfl | ⟨u, rfl⟩
                  case' inl =>
                    have hkf : tk = false := by
                      cases htt : tk with
                      | false => rfl
                      | true =>
                        have h2 := HKn.out.2.1 (by rw [← HTk.out]; exact htt)
                        rw [← HKn.out.2.2] at h2
                        cases h2
                    rw [hkf] at m0
                    simp only [Option.isSome_none, Option.getD_none, List.length_nil] at HW11 HB HFin ⊢
                    clear hkf
                  case' inr =>
                    simp only [Option.isSome_some, Option.getD_some] at HW11 HB HFin ⊢
                    have huam := among_any W (.slice va5 ls5.length vc5) (.slice za u.length zc) ls5 vs5 u w10 HO10.out.vr HB.out.1 (HLin.out u rfl) hl5'
                    have HUa := Lib.hid huam
                    clear huam
                    cases tk
                  all_goals
                    first
                      | (go_wp2_with fail
                         first | (refine HUa.out.mono ?_) | (refine HVa.out.mono ?_)
                         rintro e w12 ⟨rfl, rfl⟩
                         go_wp2_with fail
                         refine HVa.out.mono ?_
                         rintro e w12 ⟨rfl, rfl⟩
                         go_wp2_with fail
                         rw [← HW11.out]
                         go_roundg (N - (k + 1))
                         case measure => have := HK.out.1; omega
                         case rel => exact ⟨k + 1, t11, by have := HK.out.1; omega, by go_num, HFin.out.2, HFin.out.1⟩)
                      | (go_wp2_with fail
                         first | (refine HUa.out.mono ?_) | (refine HVa.out.mono ?_)
                         rintro e w12 ⟨rfl, rfl⟩
                         go_wp2_with fail
                         rw [← HW11.out]
                         go_roundg (N - (k + 1))
                         case measure => have := HK.out.1; omega
                         case rel => exact ⟨k + 1, t11, by have := HK.out.1; omega, by go_num, HFin.out.2, HFin.out.1⟩)
                      | (go_wp2_with fail
                         rw [← HW11.out]
                         go_roundg (N - (k + 1))
                         case measure => have := HK.out.1; omega
                         case rel => exact ⟨k + 1, t11, by have := HK.out.1; omega, by go_num, HFin.out.2, HFin.out.1⟩)
              · obtain rfl : k = N := by omega
                have HO := Lib.hid hO
                clear hO
                go_wp2_with fail
                go_roundg (l.length - (i + 1))
                case measure => have := HI.out.1; omega
                case rel => exact ⟨i + 1, va5, vc5, ls5, vs5, t, st6, cc + 120, gh6, G6, F6, by have := HI.out.1; omega, by omega, hl5, by go_num, rfl, by have := HI.out.2.1; omega, HN6.out, HK.out.2, HO.out⟩
      · have hcs : (i < l.length ∧ ¬ (i : Int) < 150) ∨ ¬ (i < l.length) := by omega
        have HO := Lib.hid hO
        clear hO
        rcases hcs with ⟨ha, hb⟩ | ha
        all_goals
          go_wp2_with fail
          refine (known_any wr).mono ?_
          rintro e w8 ⟨rfl, hf8⟩
          have HF8 := Lib.hid (HO.out.lr.fr.tr hf8)
          clear hf8
          go_wp2_with fail
          go_ret
          exact ⟨rfl, (HF8.out.mono (fun _ _ h => h.elim) : Fr (fun k => W.heap.size ≤ k) W _).below (Nat.le_refl _)⟩
end Go.Proofs.Ytkpfgoalohbfeaa
