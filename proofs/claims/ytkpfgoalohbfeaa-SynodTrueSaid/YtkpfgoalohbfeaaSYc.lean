/- SynodVotes. -/
import Derived.Test.YtkpfgoalohbfeaaSYa
namespace Go.Proofs.Ytkpfgoalohbfeaa
open Go.RowKit

/-- Twelve ballots in a block. -/
def LastR (w : World) (b : Nat) (t : Nat → Nat × Int) : Prop :=
  ∃ cs, Blk w b 50 cs ∧ cs.size = 24 ∧ ∀ i, i < 12 → cs[i * 2]? = some (.int .u64 ((t i).1 : Int)) ∧ cs[i * 2 + 1]? = some (.int .i64 (t i).2)
section
variable {W w w' : World} {b r nb c c' i n : Nat} {d : Int} {t : Nat → Nat × Int} {st st' : Sy} {g g' : Gh} {G F G' F' X : Nat → Prop} {v v' s : Value} {l : List Vt} {vs : List Value} {p : Vt}
theorem LastR.fr (h : LastR w b t) (hf : Fr X w w') (hx : ¬ X b) : LastR w' b t := by
  obtain ⟨cs, h1, h2, h3⟩ := h
  exact ⟨cs, h1.fr hf hx, h2, h3⟩
theorem LastR.at (h : LastR w b t) (hi : i < 12) : w.cell? ⟨b, i * 2, none⟩ = some (.int .u64 ((t i).1 : Int)) ∧ w.cell? ⟨b, i * 2 + 1, none⟩ = some (.int .i64 (t i).2) := by
  obtain ⟨cs, h1, h2, h3⟩ := h
  exact ⟨h1.cell _ (h3 i hi).1, h1.cell _ (h3 i hi).2⟩
theorem LastR.frozen (h : LastR w b t) (i : Nat) : w.frozen? ⟨b, i, none⟩ = false := by
  obtain ⟨cs, h1, h2, h3⟩ := h
  exact h1.frozen i
theorem LastR.put (h : LastR w b t) (hi : i < 12) (n : Nat) (d : Int) : LastR ((w.setCell ⟨b, i * 2, none⟩ (.int .u64 n)).setCell ⟨b, i * 2 + 1, none⟩ (.int .i64 d)) b (fun j => if j = i then (n, d) else t j) := by
  obtain ⟨cs, h1, h2, h3⟩ := h
  refine ⟨_, (h1.set_ (i * 2) (.int .u64 n)).set_ (i * 2 + 1) (.int .i64 d), by simp [h2], fun j hj => ?_⟩
  by_cases hij : j = i
  · subst hij
    simp only [if_true]
    constructor
    · rw [Array.getElem?_setIfInBounds_ne (by omega), Array.getElem?_setIfInBounds_self_of_lt (by omega)]
    · rw [Array.getElem?_setIfInBounds_self_of_lt (by simp; omega)]
  · simp only [if_neg hij]
    obtain ⟨h4, h5⟩ := h3 j hj
    constructor
    · rw [Array.getElem?_setIfInBounds_ne (by omega), Array.getElem?_setIfInBounds_ne (by omega)]; exact h4
    · rw [Array.getElem?_setIfInBounds_ne (by omega), Array.getElem?_setIfInBounds_ne (by omega)]; exact h5
theorem LastR.blk (h : LastR w b t) : ∃ cs, Blk w b 50 cs := by obtain ⟨cs, h1, _⟩ := h; exact ⟨cs, h1⟩

/-- The law's own votes. -/
structure VtS (W w : World) (F : Nat → Prop) (v : Value) (l : List Vt) (vs : List Value) : Prop where
  c : Cpy W w v l vs
  f : ∀ k, v.ownBlock = some k → ¬ F k
  fv : ∀ (i : Nat) (s : Value) (k : Nat), vs[i]? = some s → s.ownBlock = some k → ¬ F k
theorem VtS.up (h : VtS W w F v l vs) (hf : Fr (fun _ => False) w w') : VtS W w' F v l vs := ⟨h.c.up hf, h.f, h.fv⟩
theorem VtS.next (h : VtS W w F v l vs) (hn : Nx F F' w w') (hf : Fr G w w') (hG : ∀ k, G k → F k) (hlo : ∀ k, F k → W.heap.size ≤ k) : VtS W w' F' v l vs := by
  have hs := h.c
  have hv : ∀ (i : Nat) (p : Vt) (s : Value), l[i]? = some p → vs[i]? = some s → ∀ k, s.ownBlock = some k → ¬ G k := fun i p s _ h2 k hk hg => h.fv i s k h2 hk (hG k hg)
  refine ⟨⟨own_fr hs.row hf (fun k hk hg => h.f k hk (hG k hg)), hs.len, fun i p s h1 h2 => own_fr (hs.val i p s h1 h2) hf (hv i p s h1 h2), hs.fr.trans hf (fun k hk hx => hx.elim id (fun hg => by have := hlo k (hG k hg); omega))⟩, fun k hk h' => ?_, fun i s k h1 h2 h' => ?_⟩
  · rcases hn k h' with h3 | h3
    · exact h.f k hk h3
    · have := own_lt hs.row hk; omega
  · rcases hn k h' with h3 | h3
    · exact h.fv i s k h1 h2 h3
    · have hi := (List.getElem?_eq_some_iff.1 h1).1
      have hil : i < l.length := by rw [← hs.len]; exact hi
      have := own_lt (hs.val i _ s (List.getElem?_eq_getElem hil) h1) h2; omega
theorem VtS.put1 (h : VtS W w F v l vs) {cs : Array Value} {T : TypeId} (hB : Blk w b T cs) (hb : W.heap.size ≤ b) (h1 : 5 ≠ T) (h2 : 46 ≠ T) (u : Value) : VtS W (w.setCell ⟨b, i, none⟩ u) F v l vs :=
  ⟨h.c.put1 hB hb h1 (fun k hk => own_blk_ne h.c.row hB h2 k hk), h.f, h.fv⟩
theorem VtS.at (h : VtS W w F v l vs) {j : Nat} {p : Vt} (hp : l[j]? = some p) :
    ∃ g lc u, v = .slice (some ⟨g, 0, none⟩) l.length lc ∧ w.ownsRow 0 5 1 u p.v.length (u8s p.v) ∧ w.cell? ⟨g, j * 4, none⟩ = some (.int .u64 p.s) ∧ w.cell? ⟨g, j * 4 + 1, none⟩ = some (.int .u64 p.n) ∧ w.cell? ⟨g, j * 4 + 2, none⟩ = some (.int .i64 p.d) ∧ w.cell? ⟨g, j * 4 + 3, none⟩ = some u := by
  have hj := (List.getElem?_eq_some_iff.1 hp).1
  have hjv : j < vs.length := by rw [h.c.len]; exact hj
  obtain ⟨e1, e2, e3, e4⟩ := flatV_get l vs j p vs[j] hp (List.getElem?_eq_getElem hjv)
  have hrow := h.c.row
  rcases own_form hrow with ⟨rfl, hL, _⟩ | ⟨g, cap, cur, rfl, _⟩
  · omega
  · exact ⟨g, cap, vs[j], rfl, own_base (h.c.val j p _ hp (List.getElem?_eq_getElem hjv)), own_cell (own_base hrow) _ e1, own_cell (own_base hrow) _ e2, own_cell (own_base hrow) _ e3, own_cell (own_base hrow) _ e4⟩
theorem VtS.form (h : VtS W w F v l vs) : ∃ a c, v = .slice a l.length c := own_sl5 h.c.row

/-- What SynodVotes has at the head of a round. -/
structure VotI (W w : World) (r nb : Nat) (st : Sy) (c : Nat) (g : Gh) (G F : Nat → Prop) (b : Nat) (t : Nat → Nat × Int) (v : Value) (l : List Vt) (vs : List Value) : Prop where
  lr : Lr W w r nb st c G F
  k : Kp st g Lim
  la : LastR w b t
  bF : ¬ F b
  bW : W.heap.size ≤ b
  le : ∀ i, i < st.N → bLe (t i).1 (t i).2 (st.nd i).pn (st.nd i).pd
  vt : VtS W w F v l vs
  pr : ∀ p ∈ l, g.prop p.n p.d = some p.v
variable {u : Value}
theorem VotI.up (h : VotI W w r nb st c g G F b t v l vs) (hf : Fr (fun _ => False) w w') : VotI W w' r nb st c g G F b t v l vs :=
  ⟨h.lr.up hf, h.k, h.la.fr hf (fun h => h), h.bF, h.bW, h.le, h.vt.up hf, h.pr⟩
theorem VotI.next (h : VotI W w r nb st c g G F b t v l vs) {x : Ac} (hT : RmTo w r nb (actS st x) c' G F w') : ∃ g' G' F', VotI W w' r nb (actS st x) c' g' G' F' b t v l vs := by
  obtain ⟨G', F', h1, h2, h3⟩ := h.lr.next hT
  obtain ⟨g', k1, k2⟩ := h.k.act (fun _ h => h) x (fun _ h => h)
  obtain ⟨cs, hB⟩ := h.la.blk
  refine ⟨g', G', F', h1, k1, h.la.fr h3 (fun hg => h.bF (h.lr.rm.GF _ hg)), fun hF => ?_, h.bW, fun i hi => ?_, h.vt.next h2 h3 h.lr.rm.GF h.lr.lo, fun p hp => k2.1 _ _ _ (h.pr p hp)⟩
  · rcases h2 b hF with h4 | h4
    · exact h.bF h4
    · have := hB.lt; omega
  · have hgo := (act_go st x).1
    rw [hgo.N] at hi
    exact (h.le i hi).tr (hgo.pn i)
theorem VotI.put (h : VotI W w r nb st c g G F b t v l vs) (hi : i < st.N) (h12 : i < 12) : VotI W ((w.setCell ⟨b, i * 2, none⟩ (.int .u64 ((st.nd i).pn : Int))).setCell ⟨b, i * 2 + 1, none⟩ (.int .i64 (st.nd i).pd)) r nb st c g G F b (fun j => if j = i then ((st.nd i).pn, (st.nd i).pd) else t j) v l vs := by
  obtain ⟨cs, hB⟩ := h.la.blk
  have hf : Fr (fun k => k = b) w ((w.setCell ⟨b, i * 2, none⟩ (.int .u64 ((st.nd i).pn : Int))).setCell ⟨b, i * 2 + 1, none⟩ (.int .i64 (st.nd i).pd)) := (Fr.set1 w b _ _).setCell (p := ⟨b, i * 2 + 1, none⟩) (fun _ => rfl) _
  refine ⟨h.lr.off hf (fun k hk => by subst hk; exact ⟨h.bF, h.bW⟩), h.k, h.la.put h12 _ _, h.bF, h.bW, fun j hj => ?_, (h.vt.put1 hB h.bW (by decide) (by decide) _).put1 (hB.set_ _ _) h.bW (by decide) (by decide) _, h.pr⟩
  by_cases hij : j = i
  · subst hij; rw [if_pos rfl]; exact bLe.rfl'
  · rw [if_neg hij]; exact h.le j hj
theorem VotI.more (h : VotI W w r nb st c g G F b t v l vs) (hs : w.ownsRow W.heap.size 5 1 u p.v.length (u8s p.v)) (hsF : ∀ k, u.ownBlock = some k → ¬ F k) (hp : g.prop p.n p.d = some p.v)
    (ha : Appended W.heap.size 46 4 w v l.length 1 (flatV l vs) [.int .u64 p.s, .int .u64 p.n, .int .i64 p.d, u] v' w') : VotI W w' r nb st c g G F b t v' (l ++ [p]) (vs ++ [u]) := by
  have hf : Fr (fun k => v.ownBlock = some k) w w' := (Fr.refl _ w).grown ha.2.1 (fun k hk _ => hk)
  have hX : ∀ k, v.ownBlock = some k → ¬ F k ∧ W.heap.size ≤ k := fun k hk => ⟨h.vt.f k hk, (h.vt.c.row.lt k hk).1⟩
  obtain ⟨cs, hB⟩ := h.la.blk
  refine ⟨h.lr.off hf hX, h.k, h.la.fr hf (fun e => own_blk_ne h.vt.c.row hB (by decide) _ e rfl), h.bF, h.bW, h.le, ⟨h.vt.c.more hs ha, fun k hk => ?_, fun i s k h1 h2 => ?_⟩, fun q hq => ?_⟩
  · rcases ha.2.2 with e | e
    · rw [e] at hk; exact h.vt.f k hk
    · rw [e] at hk
      injection hk with hk
      subst hk
      exact h.lr.notF (Nat.le_refl _)
  · by_cases hi : i < vs.length
    · rw [List.getElem?_append_left hi] at h1
      exact h.vt.fv i s k h1 h2
    · have hi' : i = vs.length := by
        have := (List.getElem?_eq_some_iff.1 h1).1
        simp at this; omega
      subst hi'
      rw [List.getElem?_append_right (Nat.le_refl _)] at h1
      simp at h1
      subst h1
      exact hsF k h2
  · rcases List.mem_append.1 hq with hq | hq
    · exact h.pr q hq
    · have := List.mem_singleton.1 hq; subst this; exact hp
end

set_option maxRecDepth 100000 in
set_option maxHeartbeats 16000000 in
theorem votes_law (q : Qu) (s : Value) (v : Value) (l : List Ac) (W : World) (hs : Ints W s q.s) (hnil : ∀ c, s = .slice none 0 c → c = 0) (hm : q.s.length ≤ maxLen) (hv : AcL W v l (fun k => W.heap.size ≤ k)) :
    Calls Try.prog 5 #[q.v s, v] W fun e w' => e = .returned (.bool true) ∧ Below W.heap.size W w' := by
  obtain ⟨ib, hib0, hiz0, hiz1, hiz2⟩ := info_parts vtinfo
  have hs0 := hs
  obtain ⟨A, c, rfl, -⟩ := hs0
  obtain ⟨w1, hw1⟩ : ∃ w1, w1 = (W.alloc (.cells #[.int .i64 q.k, .int .i64 q.n, .int .i64 q.o, .int .i64 q.t, .slice A q.s.length c] 24)) := ⟨_, rfl⟩
  have hf : Fr (fun _ => False) W w1 := by rw [hw1]; exact ((Fr.refl _ W).alloc _)
  have hb1 : Blk w1 W.heap.size 24 #[.int .i64 q.k, .int .i64 q.n, .int .i64 q.o, .int .i64 q.t, .slice A q.s.length c] := by rw [hw1]; exact (Blk.new _ _ _)
  obtain ⟨bq, hbq⟩ : ∃ b, b = W.heap.size := ⟨_, rfl⟩
  rw [← hbq] at hb1
  have hroom := room_any q (.slice A q.s.length c) w1 (hs.up hf) hnil hm
  simp only [Qu.v] at hroom
  have HRoom := Lib.hid hroom
  have HW := Lib.hid (And.intro hw1 hbq)
  have HF := Lib.hid hf
  have HV := Lib.hid hv
  obtain ⟨va, vc, rfl, hll, hat0⟩ := hv
  have HAt := Lib.hid hat0
  unfold maxLen at hll
  simp only [Qu.v]
  clear hw1 hbq hf hs hm hnil hroom hat0
  go_enter Try.func5, Try.ntmps5
  go_upto_region 1 with (fail)
  rw [← HW.out.1, ← HW.out.2]
  clear HW
  have b0 := hb1.cell 0 rfl
  have b1 := hb1.cell 1 rfl
  have b2 := hb1.cell 2 rfl
  have b3 := hb1.cell 3 rfl
  have b4 := hb1.cell 4 rfl
  have bf := hb1.frozen
  go_wp2_with fail
  refine HRoom.out.mono ?_
  rintro e w2 ⟨r, nb, q', G, F, rfl, hq', hl', hL⟩
  have hL2 : Lr W w2 r nb (room0 q') 0 G F := ⟨hL.rm, fun k hk => Nat.le_trans HF.out.size (hL.lo k hk), HF.out.tr hL.fr⟩
  have hK := Kp.new hq' hl' Lim
  obtain ⟨N, hN⟩ : ∃ N, N = (room0 q').N := ⟨_, rfl⟩
  rw [← hN]
  have hN12 : N ≤ 12 := by rw [hN]; exact hL.rm.wf.n12.2.1
  have HO := Lib.hid (And.intro hL2 (And.intro hK hN))
  have hlong := along_any (.slice va l.length vc) l _ w2 (HV.out.up hL2.fr (fun _ h => h.elim))
  have HLong := Lib.hid hlong
  clear b0 b1 b2 b3 b4 bf hb1 hL hL2 hK hlong HRoom hq' hl' hN
  go_wp2_with fail
  refine HLong.out.mono ?_
  rintro e w3 ⟨b, rfl, rfl, hsh⟩
  cases b with
  | true =>
    go_wp2_with fail
    refine (known_any w2).mono ?_
    rintro e w3 ⟨rfl, hf3⟩
    have HF3 := Lib.hid (HO.out.1.fr.tr hf3)
    clear hf3
    go_wp2_with fail
    go_ret
    exact ⟨rfl, (HF3.out.mono (fun _ _ h => h.elim) : Fr (fun k => W.heap.size ≤ k) W _).below (Nat.le_refl _)⟩
  | false =>
    have HSh := Lib.hid (hsh rfl)
    clear hsh HLong
    obtain ⟨w3, hw3⟩ : ∃ w3, w3 = w2.alloc (.cells #[.int .u64 0, .int .i64 0, .int .u64 0, .int .i64 0, .int .u64 0, .int .i64 0, .int .u64 0, .int .i64 0, .int .u64 0, .int .i64 0, .int .u64 0, .int .i64 0, .int .u64 0, .int .i64 0, .int .u64 0, .int .i64 0, .int .u64 0, .int .i64 0, .int .u64 0, .int .i64 0, .int .u64 0, .int .i64 0, .int .u64 0, .int .i64 0] 50) := ⟨_, rfl⟩
    obtain ⟨bl, hbl⟩ : ∃ b, b = w2.heap.size := ⟨_, rfl⟩
    have hf3 : Fr (fun _ => False) w2 w3 := by rw [hw3]; exact (Fr.refl _ w2).alloc _
    have hLa : LastR w3 bl (fun _ => (0, 0)) := by
      refine ⟨_, by rw [hw3, hbl]; exact Blk.new _ _ _, rfl, fun i hi => ?_⟩
      match i, hi with
      | 0, _ | 1, _ | 2, _ | 3, _ | 4, _ | 5, _ | 6, _ | 7, _ | 8, _ | 9, _ | 10, _ | 11, _ => exact ⟨rfl, rfl⟩
    have hVI : VotI W w3 r nb (room0 q') 0 gh0 G F bl (fun _ => (0, 0)) (.slice none 0 0) [] [] :=
      ⟨HO.out.1.up hf3, HO.out.2.1, hLa, by rw [hbl]; exact HO.out.1.notF (Nat.le_refl _), by rw [hbl]; exact HO.out.1.fr.size, fun i _ => bLe.rfl', ⟨⟨World.ownsRow_nil _ _ _ _, rfl, fun i p s h => (by simp at h), HO.out.1.fr.tr hf3⟩, fun k h => (by simp [Value.ownBlock] at h), fun i s k h => (by simp at h)⟩, fun p hp => (by cases hp)⟩
    have HVI := Lib.hid hVI
    have HW3 := Lib.hid (And.intro hw3 hbl)
    clear hw3 hbl hf3 hLa hVI
    go_upto_region 5 with (fail)
    rw [← HW3.out.1, ← HW3.out.2]
    clear HW3
    go_wp2_with fail
    go_loopg [8, 9] l.length (fun g x8 x9 wr => ∃ (i : Nat) (va : Option Addr) (vc : Nat) (ps : List Vt) (vs : List Value) (t : Nat → Nat × Int) (st : Sy) (cc : Nat) (gh : Gh) (G F : Nat → Prop), i + g = l.length ∧ i ≤ 150 ∧ ps.length ≤ 12 * i ∧ x9 = .int .i64 i ∧ x8 = .slice va ps.length vc ∧ cc ≤ 120 * i ∧ N = st.N ∧ VotI W wr r nb st cc gh G F bl t (.slice va ps.length vc) ps vs)
    case atStart => exact ⟨0, none, 0, [], [], _, _, 0, _, G, F, by omega, by omega, by simp, rfl, rfl, by omega, HO.out.2.2, HVI.out⟩
    case round =>
      clear HO HVI
      obtain ⟨i, sa, sc, ps, vs, t, st, cc, gh, G1, F1, hi, hi150, hps, rfl, rfl, hcc, hN, hO⟩ := hrel
      have HI := Lib.hid (And.intro hi (And.intro hcc (And.intro hN hps)))
      have hi' : i ≤ l.length := by omega
      have hpl : ps.length ≤ 1800 := by omega
      clear hi hcc hN hps
      by_cases hlt : i < l.length ∧ i < 150
      · obtain ⟨hlt, hlt2⟩ := hlt
        have hlt3 : (i : Int) < 150 := by omega
        obtain ⟨x, hx⟩ : ∃ x, l[i]? = some x := ⟨_, List.getElem?_eq_getElem hlt⟩
        obtain ⟨b, off, vsx, rfl, hat⟩ := HAt.out i x hx
        have hxl := HSh.out i x hlt (by omega) hx
        have hat' := hat.up hO.lr.fr (fun _ h => h.elim)
        have hplay := play_any r nb st cc G1 F1 x vsx wr hO.lr.rm hat'.own (fun k hk hne hg => by
          have h1 := hat.ox k hk hne; have h2 := hO.lr.lo k (hO.lr.rm.GF k hg); omega) hxl (by have := HI.out.2.1; unfold maxLen; omega)
        rw [← HI.out.2.2.1] at hplay
        obtain ⟨ya, yc, rfl, -, -⟩ := hat'.own
        have q0 := hat'.c0
        have q1 := hat'.c1
        have q2 := hat'.c2
        have HPl := Lib.hid hplay
        have HO := Lib.hid hO
        clear hat hat' hx hplay hO
        go_wp2_with fail
        refine HPl.out.mono ?_
        rintro e w4 ⟨rfl, hT⟩
        obtain ⟨gh4, G4, F4, hO4⟩ := HO.out.next hT
        have hN4 : N = (actS st x).N := HI.out.2.2.1.trans (act_go st x).1.N.symm
        obtain ⟨st4, hst4⟩ : ∃ st4, st4 = actS st x := ⟨_, rfl⟩
        rw [← hst4] at hO4 hN4
        have HN4 := Lib.hid hN4
        clear hT hN4 hst4 q0 q1 q2 HPl HO
        go_wp2_with fail
        go_loopg [8, 10] N (fun g x8 x10 wr => ∃ (k : Nat) (va : Option Addr) (vc : Nat) (ps : List Vt) (vs : List Value) (t : Nat → Nat × Int), k + g = N ∧ ps.length ≤ 12 * i + k ∧ x10 = .int .i64 k ∧ x8 = .slice va ps.length vc ∧ VotI W wr r nb st4 (cc + 120) gh4 G4 F4 bl t (.slice va ps.length vc) ps vs)
        case atStart => exact ⟨0, sa, sc, ps, vs, t, by omega, HI.out.2.2.2, rfl, rfl, hO4⟩
        case round =>
          clear hO4 hpl
          obtain ⟨k, sa, sc, ps, vs, t, hk, hps, rfl, rfl, hO⟩ := hrel
          have HK := Lib.hid (And.intro hk hps)
          have hk' : k ≤ N := by omega
          have hpl : ps.length ≤ 1812 := by omega
          clear hk hps
          by_cases hkN : k < N
          · have hin : inSy st4 (k : Int) = true := by
              unfold inSy
              rw [decide_eq_true_eq]
              have h1 := hO.lr.rm.wf.n12.2.2
              have h2 := HN4.out
              omega
            have hkst : k < st4.N := by rw [← HN4.out]; exact hkN
            have hvo := voted_any r nb st4 (cc + 120) G4 F4 (k : Int) wr hO.lr.rm
            rw [show votN st4 (k : Int) = (st4.nd k).pn by unfold votN; rw [if_pos hin, Int.toNat_natCast], show votD st4 (k : Int) = (st4.nd k).pd by unfold votD; rw [if_pos hin, Int.toNat_natCast], show votV st4 (k : Int) = (st4.nd k).vt by unfold votV; rw [if_pos hin, Int.toNat_natCast]] at hvo
            have hwn := hO.k.wf.nd k hkst
            have hin2 := hO.k.inv.nd k hkst
            have hle1 : lessB (st4.nd k).pn (st4.nd k).pd (t k).1 (t k).2 = false := by
              cases hl : lessB (st4.nd k).pn (st4.nd k).pd (t k).1 (t k).2 with
              | false => rfl
              | true => exact ((less_lt hl).not (hO.le k hkst)).elim
            have hle2 : lessB (st4.nd k).pn (st4.nd k).pd (st4.nd k).vt.n (st4.nd k).vt.d = false := by
              cases hl : lessB (st4.nd k).pn (st4.nd k).pd (st4.nd k).vt.n (st4.nd k).vt.d with
              | false => rfl
              | true =>
                refine ((less_lt hl).not ?_).elim
                rcases hin2.vt with ⟨_, h2, h3, _⟩ | ⟨_, h2, _⟩
                · rw [h2, h3]
                  have := hwn.pd0
                  unfold bLe
                  omega
                · exact hin2.ac _ _ h2
            have hput : ∀ (wx : World), VotI W wx r nb st4 (cc + 120) gh4 G4 F4 bl t (.slice sa ps.length sc) ps vs → VotI W ((wx.setCell ⟨bl, k * 2, none⟩ (.int .u64 ((st4.nd k).pn : Int))).setCell ⟨bl, k * 2 + 1, none⟩ (.int .i64 (st4.nd k).pd)) r nb st4 (cc + 120) gh4 G4 F4 bl (fun j => if j = k then ((st4.nd k).pn, (st4.nd k).pd) else t j) (.slice sa ps.length sc) ps vs := fun _ h => h.put hkst (by omega)
            have hpr : ∀ V, V = (st4.nd k).vt → (V.s = 0 ∨ V.s = 1) ∧ (V.s = 1 → gh4.prop V.n V.d = some V.v) := fun V hV => by
              rw [hV]
              rcases hin2.vt with ⟨h1, _⟩ | ⟨h1, _, h3, _⟩
              · exact ⟨.inl h1, fun h => by omega⟩
              · exact ⟨.inr h1, fun _ => h3⟩
            have hvl : (st4.nd k).vt.v.length ≤ 100 := hwn.vt.l
            have HVo := Lib.hid hvo
            have HO := Lib.hid hO
            have HPut := Lib.hid hput
            have HLe := Lib.hid (And.intro hle1 hle2)
            obtain ⟨V, hV⟩ : ∃ V, V = (st4.nd k).vt := ⟨_, rfl⟩
            have HPr := Lib.hid (hpr V hV)
            rw [← hV] at HVo HLe hvl
            obtain ⟨pn, hpn⟩ : ∃ pn, pn = (st4.nd k).pn := ⟨_, rfl⟩
            obtain ⟨pd, hpd⟩ : ∃ pd, pd = (st4.nd k).pd := ⟨_, rfl⟩
            rw [← hpn, ← hpd] at HVo HLe HPut
            clear hvo hO hwn hin2 hle1 hle2 hput hpr hV hpn hpd hin hkst
            go_wp2_with fail
            refine HVo.out.mono ?_
            rintro e w5 ⟨xa, xc, rfl, ho5, hf5⟩
            obtain ⟨w6, hw6⟩ : ∃ w6, w6 = (w5.alloc (.cells #[.int .u64 (pn : Int), .int .i64 pd] 44)).alloc (.cells #[.int .u64 V.s, .int .u64 V.n, .int .i64 V.d, .slice xa V.v.length xc] 46) := ⟨_, rfl⟩
            have hf6 : Fr (fun _ => False) w5 w6 := by rw [hw6]; exact ((Fr.refl _ w5).alloc _).alloc _
            have hB6 : Blk w6 w5.heap.size 44 #[.int .u64 (pn : Int), .int .i64 pd] := by rw [hw6]; exact (Blk.new _ _ _).alloc _
            have hC6 : Blk w6 (w5.heap.size + 1) 46 #[.int .u64 V.s, .int .u64 V.n, .int .i64 V.d, .slice xa V.v.length xc] := by
              have := Blk.new (w5.alloc (.cells #[.int .u64 (pn : Int), .int .i64 pd] 44)) 46 #[.int .u64 V.s, .int .u64 V.n, .int .i64 V.d, .slice xa V.v.length xc]
              rw [hw6]; simpa using this
            have ho6 := own_fr ho5 hf6 (fun _ _ h => h)
            have hO6 := (HO.out.up hf5).up hf6
            have hsF : ∀ k, (Value.slice xa V.v.length xc).ownBlock = some k → ¬ F4 k := fun k hk => HO.out.lr.notF (ho5.lt k hk).1
            have hs6 : w6.ownsRow W.heap.size 5 1 (.slice xa V.v.length xc) V.v.length (u8s V.v) := own_up (own_base ho6) (fun k hk => Nat.le_trans HO.out.lr.fr.size (ho5.lt k hk).1)
            have hbW : W.heap.size ≤ w5.heap.size := Nat.le_trans HO.out.lr.fr.size hf5.size
            obtain ⟨bb, hbb⟩ : ∃ b, b = w5.heap.size := ⟨_, rfl⟩
            rw [← hbb] at hB6 hC6 hbW
            have hbF : ¬ F4 (bb + 1) := by rw [hbb]; exact (HO.out.up hf5).lr.notF (Nat.le_succ _)
            have HW6 := Lib.hid (And.intro hw6 hbb)
            have HS6 := Lib.hid (And.intro hs6 (And.intro hsF hbF))
            clear hw6 hbb hf5 hf6 ho5 ho6 HVo HO hs6 hsF hbF
            go_upto_region 14 with (fail)
            rw [← HW6.out.1, ← HW6.out.2]
            clear HW6
            have hk12 : k < 12 := by omega
            have hk0i : (0 : Int) ≤ (k : Int) := by omega
            have hk12i : (k : Int) < 12 := by omega
            obtain ⟨e0, e1⟩ := hO6.la.at hk12
            have d0 := hB6.cell 0 rfl
            have d1 := hB6.cell 1 rfl
            have c1 := hC6.cell 1 rfl
            have c2 := hC6.cell 2 rfl
            have hf := (Fr.refl (fun _ => False) w6).drew
            generalize ht1 : (t k).1 = t1 at e0 HLe
            generalize ht2 : (t k).2 = t2 at e1 HLe
            clear ht1 ht2
            first
              | go_region_held3 (fun wx => wx.cell? ⟨bb, 0, none⟩ = some (.int .u64 (pn : Int)) ∧ wx.cell? ⟨bb, 1, none⟩ = some (.int .i64 pd) ∧ wx.cell? ⟨bl, k * 2, none⟩ = some (.int .u64 (t1 : Int)) ∧ wx.cell? ⟨bl, k * 2 + 1, none⟩ = some (.int .i64 t2) ∧ wx.cell? ⟨bb + 1, 1, none⟩ = some (.int .u64 V.n) ∧ wx.cell? ⟨bb + 1, 2, none⟩ = some (.int .i64 V.d)) (first | exact ⟨d0, d1, e0, e1, c1, c2⟩ | exact hS4)
                ((go_at_call 19
                  refine (rless_any _ _ _ _ _).mono ?_
                  rintro e w4 ⟨rfl, hf4⟩
                  first | rw [HLe.out.1] | rw [HLe.out.2]
                  replace hf := hf.tr hf4
                  have hS4 := And.intro (hf.cell d0 (fun h => h)) (And.intro (hf.cell d1 (fun h => h)) (And.intro (hf.cell e0 (fun h => h)) (And.intro (hf.cell e1 (fun h => h)) (And.intro (hf.cell c1 (fun h => h)) (hf.cell c2 (fun h => h))))))))
              | fail
            all_goals
              have hO7 := hO6.up hf
              have hB7 := hB6.fr hf (fun h => h)
              have hC7 := hC6.fr hf (fun h => h)
              have hs7 := own_fr HS6.out.1 hf (fun _ _ h => h)
              clear hO6 hB6 hC6 hf hS4 d0 d1 e0 e1 c1 c2
              obtain ⟨w7, hw7⟩ : ∃ w7, w7 = w4 := ⟨_, rfl⟩
              rw [← hw7] at hO7 hB7 hC7 hs7 ⊢
              clear hw7
              have d0 := hB7.cell 0 rfl
              have d1 := hB7.cell 1 rfl
              obtain ⟨e0, e1⟩ := hO7.la.at hk12
              have f0 := hO7.la.frozen (k * 2)
              have f1 := hO7.la.frozen (k * 2 + 1)
              obtain ⟨w8, hw8⟩ : ∃ w8, w8 = (w7.setCell ⟨bl, k * 2, none⟩ (.int .u64 (pn : Int))).setCell ⟨bl, k * 2 + 1, none⟩ (.int .i64 pd) := ⟨_, rfl⟩
              have hO8 := HPut.out _ hO7
              rw [← hw8] at hO8
              obtain ⟨cl7, hcl7⟩ := hO7.la.blk
              have hf8 : Fr (fun k => k = bl) w7 w8 := by rw [hw8]; exact (Fr.set1 w7 bl _ _).setCell (p := ⟨bl, k * 2 + 1, none⟩) (fun _ => rfl) _
              have hC8 := hC7.fr hf8 (fun e => hC7.ne_ hcl7 (by decide) e)
              have hs8 := own_fr hs7 hf8 (fun k hk => own_blk_ne hs7 hcl7 (by decide) k hk)
              have HC8 := Lib.hid (And.intro hC8 hs8)
              have HW8 := Lib.hid hw8
              generalize (fun j => if j = k then (pn, pd) else t j) = t8 at hO8
              have HO8 := Lib.hid hO8
              clear hw8 hO7 hB7 hC7 hs7 hcl7 hf8 hC8 hs8 hO8
              go_upto_region 17 with (fail)
              rw [← HW8.out]
              clear HW8 d0 d1 e0 e1 f0 f1
              have c0 := HC8.out.1.cell 0 rfl
              rcases HPr.out.1 with h0 | h1
              · have h0' : ((V.s : Int) == 0) = true := by simp [h0]
                clear h0
                go_wp2_with fail
                go_roundg (N - (k + 1))
                case measure => have := HK.out.1; omega
                case rel => exact ⟨k + 1, sa, sc, ps, vs, t8, by have := HK.out.1; omega, by have := HK.out.2; omega, by go_num, rfl, HO8.out⟩
              · have h1' : ((V.s : Int) == 0) = false := by simp [h1]
                have HProp := Lib.hid (HPr.out.2 h1)
                clear h1
                go_wp2_with fail
                go_loopg [13, 14] ps.length (fun g x13 x14 wr => ∃ (j : Nat) (hb : Bool), j + g = ps.length ∧ x14 = .int .i64 j ∧ x13 = .bool hb ∧ VotI W wr r nb st4 (cc + 120) gh4 G4 F4 bl t8 (.slice sa ps.length sc) ps vs ∧ Blk wr (bb + 1) 46 #[.int .u64 V.s, .int .u64 V.n, .int .i64 V.d, .slice xa V.v.length xc] ∧ wr.ownsRow W.heap.size 5 1 (.slice xa V.v.length xc) V.v.length (u8s V.v))
                case atStart => exact ⟨0, false, by omega, rfl, rfl, HO8.out, HC8.out.1, HC8.out.2⟩
                case round =>
                  clear HO8 HC8 c0
                  obtain ⟨j, hb, hj, rfl, rfl, hO8, hC8, hs8⟩ := hrel
                  have HJ := Lib.hid hj
                  have hj' : j ≤ ps.length := by omega
                  clear hj
                  by_cases hjl : j < ps.length
                  · obtain ⟨z, hz⟩ : ∃ z, ps[j]? = some z := ⟨_, List.getElem?_eq_getElem hjl⟩
                    obtain ⟨gz, cz, uz, ez, hu, z0, z1, z2, z3⟩ := hO8.vt.at hz
                    injection ez with e1 _ e2
                    subst e1 e2
                    obtain ⟨ua, uc, rfl⟩ := own_sl5 hu
                    have hzp := hO8.pr z (List.mem_of_getElem? hz)
                    have c1 := hC8.cell 1 rfl
                    have c2 := hC8.cell 2 rfl
                    have c3 := hC8.cell 3 rfl
                    have hj0 : (0 : Int) ≤ (j : Int) := by omega
                    have hj1 : (j : Int) < (ps.length : Int) := by omega
                    have hzl : z.v.length ≤ 100 := (hO8.k.inv.used _ _ _ hzp).2
                    have HZ := Lib.hid (And.intro hzp (And.intro hO8 (And.intro hC8 (And.intro hs8 hu))))
                    have hf := (Fr.refl (fun _ => False) wr).drew
                    clear hO8 hC8 hs8 hu hzp hz z0
                    by_cases e : z.n = V.n ∧ z.d = V.d
                    · have hval : z.v = V.v := by
                        have h1 := HZ.out.1
                        rw [e.1, e.2, HProp.out] at h1
                        injection h1 with h1
                        exact h1.symm
                      rw [e.1] at z1
                      rw [e.2] at z2
                      have HE := Lib.hid hval
                      clear e hval
                      go_upto_region 22 with (fail)
                      first
                        | go_region_held3 (fun wx => wx.cell? ⟨gz, j * 4 + 1, none⟩ = some (.int .u64 (V.n : Int)) ∧ wx.cell? ⟨gz, j * 4 + 2, none⟩ = some (.int .i64 V.d) ∧ wx.cell? ⟨gz, j * 4 + 3, none⟩ = some (.slice ua z.v.length uc) ∧ wx.cell? ⟨bb + 1, 1, none⟩ = some (.int .u64 V.n) ∧ wx.cell? ⟨bb + 1, 2, none⟩ = some (.int .i64 V.d) ∧ wx.cell? ⟨bb + 1, 3, none⟩ = some (.slice xa V.v.length xc)) (first | exact ⟨z1, z2, z3, c1, c2, c3⟩ | exact hS4)
                          ((go_at_call 15
                            refine (same_any (.slice ua z.v.length uc) (.slice xa V.v.length xc) z.v V.v _ (Byt.of_own (own_fr HZ.out.2.2.2.2 hf (fun _ _ h => h))) (Byt.of_own (own_base (own_fr HZ.out.2.2.2.1 hf (fun _ _ h => h))))).mono ?_
                            rintro e w4 ⟨rfl, rfl⟩
                            rw [decide_eq_true HE.out]
                            have hS4 := And.intro (hf.cell z1 (fun h => h)) (And.intro (hf.cell z2 (fun h => h)) (And.intro (hf.cell z3 (fun h => h)) (And.intro (hf.cell c1 (fun h => h)) (And.intro (hf.cell c2 (fun h => h)) (hf.cell c3 (fun h => h))))))))
                        | fail
                      all_goals
                        clear z1 z2 z3 c1 c2 c3
                        obtain ⟨z1, z2, z3, c1, c2, c3⟩ := hS4
                        have hf9 := hf
                        clear hf
                        generalize wr.drew = w9 at z1 z2 z3 c1 c2 c3 hf9 ⊢
                        go_upto_region 24 with (fail)
                        cases hb with
                        | true =>
                          go_quiet (fail)
                          have hfz := hf9.trans ((Fr.refl (fun _ => False) w9).drewN nq) (fun _ _ h => h.elim id id)
                          clear z1 z2 z3 c1 c2 c3 hf9
                          go_wp2_with fail
                          go_roundg (ps.length - (j + 1))
                          case measure => have := HJ.out; omega
                          case rel => exact ⟨j + 1, true, by have := HJ.out; omega, by go_num, rfl, HZ.out.2.1.up hfz, HZ.out.2.2.1.fr hfz (fun h => h), own_fr HZ.out.2.2.2.1 hfz (fun _ _ h => h)⟩
                        | false =>
                          go_quiet (fail)
                          have hfz := hf9.trans ((Fr.refl (fun _ => False) w9).drewN nq) (fun _ _ h => h.elim id id)
                          clear z1 z2 z3 c1 c2 c3 hf9
                          go_wp2_with fail
                          go_roundg (ps.length - (j + 1))
                          case measure => have := HJ.out; omega
                          case rel => exact ⟨j + 1, _, by have := HJ.out; omega, by go_num, rfl, HZ.out.2.1.up hfz, HZ.out.2.2.1.fr hfz (fun h => h), own_fr HZ.out.2.2.2.1 hfz (fun _ _ h => h)⟩
                    · have hcs : z.n ≠ V.n ∨ (z.n = V.n ∧ z.d ≠ V.d) := by omega
                      rcases hcs with h1 | ⟨h1, h2⟩
                      · have e1' : ((z.n : Int) == (V.n : Int)) = false := by simp; omega
                        have e1'' : ¬ (z.n : Int) = (V.n : Int) := by omega
                        clear e h1 hf
                        go_upto_region 22 with (fail)
                        go_quiet (fail)
                        have hf9 := (Fr.refl (fun _ => False) wr).drewN nq
                        replace z1 := hf9.cell z1 (fun h => h)
                        replace z2 := hf9.cell z2 (fun h => h)
                        replace z3 := hf9.cell z3 (fun h => h)
                        replace c1 := hf9.cell c1 (fun h => h)
                        replace c2 := hf9.cell c2 (fun h => h)
                        replace c3 := hf9.cell c3 (fun h => h)
                        generalize wr.drewN nq = w9 at z1 z2 z3 c1 c2 c3 hf9 ⊢
                        go_upto_region 24 with (fail)
                        cases hb with
                        | true =>
                          go_quiet (fail)
                          have hfz := hf9.trans ((Fr.refl (fun _ => False) w9).drewN nq) (fun _ _ h => h.elim id id)
                          clear z1 z2 z3 c1 c2 c3 hf9
                          go_wp2_with fail
                          go_roundg (ps.length - (j + 1))
                          case measure => have := HJ.out; omega
                          case rel => exact ⟨j + 1, true, by have := HJ.out; omega, by go_num, rfl, HZ.out.2.1.up hfz, HZ.out.2.2.1.fr hfz (fun h => h), own_fr HZ.out.2.2.2.1 hfz (fun _ _ h => h)⟩
                        | false =>
                          go_quiet (fail)
                          have hfz := hf9.trans ((Fr.refl (fun _ => False) w9).drewN nq) (fun _ _ h => h.elim id id)
                          clear z1 z2 z3 c1 c2 c3 hf9
                          go_wp2_with fail
                          go_roundg (ps.length - (j + 1))
                          case measure => have := HJ.out; omega
                          case rel => exact ⟨j + 1, _, by have := HJ.out; omega, by go_num, rfl, HZ.out.2.1.up hfz, HZ.out.2.2.1.fr hfz (fun h => h), own_fr HZ.out.2.2.2.1 hfz (fun _ _ h => h)⟩
                      · have e2' : (z.d == V.d) = false := by simp [h2]
                        rw [h1] at z1
                        clear e h1 hf
                        go_upto_region 22 with (fail)
                        go_quiet (fail)
                        have hf9 := (Fr.refl (fun _ => False) wr).drewN nq
                        replace z1 := hf9.cell z1 (fun h => h)
                        replace z2 := hf9.cell z2 (fun h => h)
                        replace z3 := hf9.cell z3 (fun h => h)
                        replace c1 := hf9.cell c1 (fun h => h)
                        replace c2 := hf9.cell c2 (fun h => h)
                        replace c3 := hf9.cell c3 (fun h => h)
                        generalize wr.drewN nq = w9 at z1 z2 z3 c1 c2 c3 hf9 ⊢
                        go_upto_region 24 with (fail)
                        cases hb with
                        | true =>
                          go_quiet (fail)
                          have hfz := hf9.trans ((Fr.refl (fun _ => False) w9).drewN nq) (fun _ _ h => h.elim id id)
                          clear z1 z2 z3 c1 c2 c3 hf9
                          go_wp2_with fail
                          go_roundg (ps.length - (j + 1))
                          case measure => have := HJ.out; omega
                          case rel => exact ⟨j + 1, true, by have := HJ.out; omega, by go_num, rfl, HZ.out.2.1.up hfz, HZ.out.2.2.1.fr hfz (fun h => h), own_fr HZ.out.2.2.2.1 hfz (fun _ _ h => h)⟩
                        | false =>
                          go_quiet (fail)
                          have hfz := hf9.trans ((Fr.refl (fun _ => False) w9).drewN nq) (fun _ _ h => h.elim id id)
                          clear z1 z2 z3 c1 c2 c3 hf9
                          go_wp2_with fail
                          go_roundg (ps.length - (j + 1))
                          case measure => have := HJ.out; omega
                          case rel => exact ⟨j + 1, _, by have := HJ.out; omega, by go_num, rfl, HZ.out.2.1.up hfz, HZ.out.2.2.1.fr hfz (fun h => h), own_fr HZ.out.2.2.2.1 hfz (fun _ _ h => h)⟩
                  · obtain rfl : j = ps.length := by omega
                    have HO8 := Lib.hid (And.intro hO8 (And.intro hC8 hs8))
                    clear hO8 hC8 hs8
                    cases hb with
                    | true =>
                      go_wp2_with fail
                      go_roundg (N - (k + 1))
                      case measure => have := HK.out.1; omega
                      case rel => exact ⟨k + 1, sa, sc, ps, vs, t8, by have := HK.out.1; omega, by have := HK.out.2; omega, by go_num, rfl, HO8.out.1⟩
                    | false =>
                      have c0 := HO8.out.2.1.cell 0 rfl
                      have c1 := HO8.out.2.1.cell 1 rfl
                      have c2 := HO8.out.2.1.cell 2 rfl
                      have c3 := HO8.out.2.1.cell 3 rfl
                      obtain ⟨w9, hw9⟩ : ∃ w9, w9 = wr.alloc (.cells #[.int .u64 V.s, .int .u64 V.n, .int .i64 V.d, .slice xa V.v.length xc] 46) := ⟨_, rfl⟩
                      have hf9 : Fr (fun _ => False) wr w9 := by rw [hw9]; exact (Fr.refl _ wr).alloc _
                      have hO9 := HO8.out.1.up hf9
                      have hs9 := own_fr HO8.out.2.2 hf9 (fun _ _ h => h)
                      have hn9 : ∀ j u, [Value.int .u64 V.s, .int .u64 V.n, .int .i64 V.d, .slice xa V.v.length xc][j]? = some u → w9.cell? (Addr.add ⟨wr.heap.size, 0, none⟩ j) = some u := by
                        rw [hw9]; exact World.news_of_block (cs := #[.int .u64 V.s, .int .u64 V.n, .int .i64 V.d, .slice xa V.v.length xc]) (t := 46) (fr := (0, 0)) (heap_alloc_new wr _)
                      have hrow := hO9.vt.c.row
                      have hz9 := hO9.lr.fr.size
                      have HW9 := Lib.hid hw9
                      have HO9 := Lib.hid (And.intro hO9 hs9)
                      clear hw9 hO9 hs9 hf9 HO8
                      go_wp2_with (first
                        | (at_builtin
                           rw [← HW9.out]
                           clear HW9
                           refine wpList_bi2 rfl .append _ _ _ _ _ rfl rfl rfl _ (ap_cells (base := W.heap.size) Try.underlying51 hib0 hiz0 hiz1 hiz2 rfl (by omega) hrow ⟨wr.heap.size, 0, none⟩ 1 1 [.int .u64 V.s, .int .u64 V.n, .int .i64 V.d, .slice xa V.v.length xc] rfl hn9 (by simp [Value.oneCell']) (by unfold maxLen; omega) (by omega) hz9) ?_
                           rintro v' w10 hap))
                      have hO10 := HO9.out.1.more HO9.out.2 HS6.out.2.1 HProp.out hap
                      obtain ⟨va', vc', rfl⟩ := hO10.vt.form
                      rw [List.length_append, List.length_singleton] at hO10 ⊢
                      go_roundg (N - (k + 1))
                      case measure => have := HK.out.1; omega
                      case rel => exact ⟨k + 1, va', vc', ps ++ [V], _, t8, by have := HK.out.1; omega, by have := HK.out.2; simp; omega, by go_num, by simp, by simpa using hO10⟩
          · obtain rfl : k = N := by omega
            have HO := Lib.hid hO
            clear hO
            go_wp2_with fail
            go_roundg (l.length - (i + 1))
            case measure => have := HI.out.1; omega
            case rel => exact ⟨i + 1, sa, sc, ps, vs, t, st4, cc + 120, gh4, G4, F4, by have := HI.out.1; omega, by omega, by have := HK.out.2; omega, by go_num, rfl, by have := HI.out.2.1; omega, HN4.out, HO.out⟩
      · have hcs : (i < l.length ∧ ¬ (i : Int) < 150) ∨ ¬ (i < l.length) := by omega
        have HO := Lib.hid hO
        clear hO
        rcases hcs with ⟨ha, hb⟩ | ha
        all_goals
          go_wp2_with fail
          refine (known_any wr).mono ?_
          rintro e w8 ⟨rfl, hf8⟩
          have HF8 := Lib.hid (HO.out.lr.fr.tr hf8)
          clear hf8
          go_wp2_with fail
          go_ret
          exact ⟨rfl, (HF8.out.mono (fun _ _ h => h.elim) : Fr (fun k => W.heap.size ≤ k) W _).below (Nat.le_refl _)⟩
end Go.Proofs.Ytkpfgoalohbfeaa
