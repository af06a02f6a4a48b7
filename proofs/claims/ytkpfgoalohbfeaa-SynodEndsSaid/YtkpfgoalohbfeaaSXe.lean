/- The plain law of SynodEnds. -/
import Derived.Test.YtkpfgoalohbfeaaSYa
namespace Go.Proofs.Ytkpfgoalohbfeaa

theorem cnt_true (n : Nat) : cnt n (fun _ => true) = n := by
  induction n with
  | zero => rfl
  | succ n ih => simp [cnt, ih]
theorem cnt_false (n : Nat) : cnt n (fun _ => false) = 0 := by
  induction n with
  | zero => rfl
  | succ n ih => simp [cnt, ih]
theorem all_q (q : Qu) (sec : Bool) : isQ q sec (fun _ => true) = okQ q := by
  by_cases h : rightE q = 0
  · have ho := ok_of h
    have : isQ q sec (fun _ => true) = true := by
      rw [isQ_iff]
      refine ⟨ho, ?_⟩
      cases ho with
      | one N O T s n1 n12 o1 oN t1 tN m =>
        unfold quo
        rw [if_pos rfl]
        simp only [Int.toNat_natCast, cnt_true, decide_eq_true_eq]
        cases sec <;> simp <;> omega
      | two N O T s n1 n12 o1 oN t1 tN m =>
        unfold quo
        rw [if_neg (by simp), if_pos rfl]
        cases sec
        · exact anyN_iff.2 ⟨0, by simp; omega, allN_iff.2 fun i _ => by simp⟩
        · exact anyN_iff.2 ⟨0, by simp; omega, allN_iff.2 fun i _ => by simp⟩
      | three o t s n1 n12 b =>
        unfold quo
        rw [if_neg (by simp), if_neg (by simp)]
        cases sec
        · exact allN_iff.2 fun j hj => anyN_iff.2 ⟨j, hj, by simp⟩
        · exact anyN_iff.2 ⟨0, by simp; omega, allN_iff.2 fun i _ => by simp⟩
    rw [this]
    unfold okQ
    rw [h]
    rfl
  · unfold isQ okQ
    rw [show (rightE q == 0) = false by simp [h]]
    rfl
theorem none_q (q : Qu) (sec : Bool) : isQ q sec (fun _ => false) = false := by
  rw [Bool.eq_false_iff]
  intro h
  rw [isQ_iff] at h
  obtain ⟨ho, h⟩ := h
  cases ho with
  | one N O T s n1 n12 o1 oN t1 tN m =>
    unfold quo at h
    rw [if_pos rfl] at h
    simp only [Int.toNat_natCast, cnt_false, decide_eq_true_eq] at h
    cases sec <;> simp at h <;> omega
  | two N O T s n1 n12 o1 oN t1 tN m =>
    unfold quo at h
    rw [if_neg (by simp), if_pos rfl] at h
    cases sec
    · simp only [Int.toNat_natCast, Bool.false_eq_true, if_false] at h
      obtain ⟨r, hr, h⟩ := anyN_iff.1 h
      have hlt : r * T < N := by
        rw [← m]
        have : (r + 1) * T ≤ O * T := Nat.mul_le_mul_right _ hr
        rw [Nat.add_mul] at this
        omega
      have := allN_iff.1 h _ hlt
      simp [Nat.mul_div_cancel _ (by omega : 0 < T)] at this
    · simp only [Int.toNat_natCast, if_true] at h
      obtain ⟨c, hc, h⟩ := anyN_iff.1 h
      have := allN_iff.1 h c (by omega)
      simp [Nat.mod_eq_of_lt hc] at this
  | three o t s n1 n12 b =>
    unfold quo at h
    rw [if_neg (by simp), if_neg (by simp)] at h
    cases sec
    · simp only [Int.toNat_natCast, Bool.false_eq_true, if_false] at h
      have := allN_iff.1 h 0 n1
      obtain ⟨i, _, h⟩ := anyN_iff.1 this
      simp at h
    · simp only [Int.toNat_natCast, if_true] at h
      obtain ⟨j, hj, h⟩ := anyN_iff.1 h
      have := allN_iff.1 h j hj
      simp at this


theorem allS_l (st : Sy) (m : Lt) : ∀ k, st.l.length + k ≤ 200 → (allS st m k).l = st.l ++ (List.range k).map fun i => { m with dst := i }
  | 0, _ => by simp [allS]
  | k + 1, h => by
    have ih := allS_l st m k (by omega)
    show (sendS (allS st m k) { m with dst := k }).l = _
    unfold sendS
    rw [if_pos (by rw [ih]; simp; omega)]
    show (allS st m k).l ++ _ = _
    rw [ih, List.range_succ, List.map_append, List.append_assoc]
    rfl

/-- How many takes a letter asks for, at most. -/
def wt (m : Lt) : Nat := if m.k = 1 then 2 else if m.k = 3 then 2 else 1
def wts : List Lt → Nat
  | [] => 0
  | m :: l => wt m + wts l
theorem wt_pos (m : Lt) : 1 ≤ wt m := by unfold wt; split; omega; split <;> omega
theorem wts_append (a b : List Lt) : wts (a ++ b) = wts a + wts b := by
  induction a with
  | nil => simp [wts]
  | cons x a ih => simp only [List.cons_append, wts, ih]; omega
theorem wts_len (a : List Lt) : a.length ≤ wts a := by
  induction a with
  | nil => simp [wts]
  | cons x a ih => simp only [List.length_cons, wts]; have := wt_pos x; omega
theorem wts_two (f : Nat → Lt) (hf : ∀ i, wt (f i) = 2) : ∀ n, wts ((List.range n).map f) = 2 * n
  | 0 => rfl
  | n + 1 => by rw [List.range_succ, List.map_append, wts_append, wts_two f hf n]; simp [wts, hf]; omega
/-- What is kept for letters 3 that are still to be written. -/
def rsv (N : Nat) (x : Nd) : Nat := match x.p with | some p => if readyB p = true then 0 else 2 * N | none => 0

/-- A letter of the round of ballot (n, a). -/
structure LR (a n : Nat) (m : Lt) : Prop where
  en : m.n = n
  ed : m.d = (a : Int)
  f1 : m.k = 1 → m.fr = a
  d2 : m.k = 2 → m.dst = a
  f3 : m.k = 3 → m.fr = a
  d4 : m.k = 4 → m.dst = a
  v2 : m.k = 2 → ∀ v ∈ m.vs, bLe v.n v.d n (a : Int)
def Has (st : Sy) (P : Lt → Prop) : Prop := ∃ m, m ∈ st.l ∧ P m
/-- A round: node a's ballot n, at most t takes to come; behind it, where Z, a knows. -/
structure Rn (st : Sy) (a n t : Nat) (s0 p0 : Nat → Nat) (Z : Prop) : Prop where
  ha : a < st.N
  le : ∀ m ∈ st.l, LR a n m
  phi : wts st.l + rsv st.N (st.nd a) ≤ t
  bn : (st.nd a).bn = n
  bd : (st.nd a).bd = (a : Int)
  sa : (st.nd a).seen = n
  sb : ∀ j, j < st.N → (st.nd j).seen ≤ max (s0 j) n
  pb : ∀ j, j < st.N → (st.nd j).pn ≤ max (p0 j) n
  see : ∀ j, j < st.N → Has st (fun m => m.k = 1 ∧ m.dst = j) ∨ n ≤ (st.nd j).seen
  p : ∃ p, (st.nd a).p = some p
  pn : Z → ∀ j, j < st.N → bLe (st.nd j).pn (st.nd j).pd n (a : Int)
  jj : Z → ∀ p, (st.nd a).p = some p →
    (readyB p = false ∧ p.sl 1 = none ∧ ∀ j, j < st.N → Has st (fun m => m.k = 1 ∧ m.dst = j) ∨ Has st (fun m => m.k = 2 ∧ m.fr = j) ∨ p.set.testBit j = true) ∨
    (readyB p = true ∧ ∃ V X, p.sl 1 = some (V, X) ∧ (∀ j, j < st.N → Has st (fun m => m.k = 3 ∧ m.dst = j) ∨ Has st (fun m => m.k = 4 ∧ m.fr = j) ∨ X.testBit j = true) ∧ (isQ st.q true X.testBit = true → (st.nd a).kn = true))
section
variable {st st' : Sy} {g g' : Gh} {S : List UInt8 → Prop} {a n t : Nat} {s0 p0 : Nat → Nat} {Z : Prop} {m : Lt} {tl : List Lt} {P : Lt → Prop}
theorem Has.tail (h : Has st P) (hl : st.l = m :: tl) (hn : ¬ P m) {st' : Sy} (hs : ∀ x ∈ tl, x ∈ st'.l) : Has st' P := by
  obtain ⟨x, h1, h2⟩ := h
  rw [hl] at h1
  rcases List.mem_cons.1 h1 with h1 | h1
  · subst h1; exact absurd h2 hn
  · exact ⟨x, hs x h1, h2⟩
theorem sendS_l (h : st.l.length < 200) (m : Lt) : (sendS st m).l = st.l ++ [m] := by unfold sendS; rw [if_pos h]
theorem mem_left {x : Lt} {l r : List Lt} (h : x ∈ l) : x ∈ l ++ r := List.mem_append_left _ h
theorem rsv_congr {N : Nat} {x y : Nd} (h : x.p = y.p) : rsv N x = rsv N y := by unfold rsv; rw [h]

/-- A letter that node j takes but for its own proposer: its row of nodes. -/
theorem Rn.bare (h : Rn st a n (t + 1) s0 p0 Z) (hl : st.l = m :: tl) (x' : Nd) (hx1 : x'.p = (st.nd m.dst).p) (hx2 : x'.bn = (st.nd m.dst).bn) (hx3 : x'.bd = (st.nd m.dst).bd) (hx4 : x'.kn = (st.nd m.dst).kn) (hx5 : x'.seen = max (st.nd m.dst).seen m.n)
    (hx6 : (x'.pn = (st.nd m.dst).pn ∧ x'.pd = (st.nd m.dst).pd) ∨ (x'.pn = m.n ∧ x'.pd = m.d)) (hq : st'.q = st.q) (hnd : st'.nd = (st.upd m.dst x').nd) (b : List Lt) (hb : st'.l = tl ++ b) (hb1 : ∀ x ∈ b, LR a n x) (hb2 : wts b + 1 ≤ wt m)
    (hz : Z → (m.k = 1 → Has st' (fun y => y.k = 2 ∧ y.fr = m.dst)) ∧ (m.k = 3 → Has st' (fun y => y.k = 4 ∧ y.fr = m.dst))) (hk : m.k = 1 ∨ m.k = 3) : Rn st' a n t s0 p0 Z := by
  have hN : st'.N = st.N := by unfold Sy.N; rw [hq]
  have hm := h.le m (by rw [hl]; exact List.mem_cons_self)
  have htl : ∀ x ∈ tl, x ∈ st'.l := fun x hx => by rw [hb]; exact mem_left hx
  have hn : ∀ j, st'.nd j = if j = m.dst then x' else st.nd j := fun j => by rw [hnd]; rfl
  have hcase : ∀ (C : Nd → Prop) j, C (st.nd j) → (j = m.dst → C (st.nd m.dst) → C x') → C (st'.nd j) := fun C j h1 h2 => by
    rw [hn]
    split
    · rename_i e; subst e; exact h2 rfl h1
    · exact h1
  have hp : (st'.nd a).p = (st.nd a).p := by
    rw [hn]; split
    · rename_i e; rw [hx1, ← e]
    · rfl
  refine ⟨by rw [hN]; exact h.ha, fun x hx => ?_, ?_, ?_, ?_, ?_, fun j hj' => ?_, fun j hj' => ?_, fun j hj' => ?_, by rw [hp]; exact h.p, fun z j hj' => ?_, fun z p he => ?_⟩
  · rw [hb] at hx
    rcases List.mem_append.1 hx with hx | hx
    · exact h.le x (by rw [hl]; exact List.mem_cons_of_mem _ hx)
    · exact hb1 x hx
  · have h1 := h.phi
    rw [hl] at h1
    simp only [wts] at h1
    rw [hb, wts_append, hN, rsv_congr hp]
    omega
  · exact hcase (fun y => y.bn = n) a h.bn (fun _ h1 => by rw [hx2]; exact h1)
  · exact hcase (fun y => y.bd = (a : Int)) a h.bd (fun _ h1 => by rw [hx3]; exact h1)
  · exact hcase (fun y => y.seen = n) a h.sa (fun _ h1 => by rw [hx5, h1, hm.en]; exact Nat.max_self n)
  · rw [hN] at hj'
    exact hcase (fun y => y.seen ≤ max (s0 j) n) j (h.sb j hj') (fun _ h1 => by rw [hx5, hm.en]; omega)
  · rw [hN] at hj'
    exact hcase (fun y => y.pn ≤ max (p0 j) n) j (h.pb j hj') (fun _ h1 => by
      rcases hx6 with h2 | h2
      · rw [h2.1]; exact h1
      · rw [h2.1, hm.en]; exact Nat.le_max_right _ _)
  · rw [hN] at hj'
    by_cases e : j = m.dst
    · refine .inr ?_
      rw [hn, if_pos e, hx5, hm.en]
      exact Nat.le_max_right _ _
    · rcases h.see j hj' with h1 | h1
      · exact .inl (h1.tail hl (fun hh => e hh.2.symm) htl)
      · refine .inr ?_
        rw [hn, if_neg e]; exact h1
  · rw [hN] at hj'
    exact hcase (fun y => bLe y.pn y.pd n (a : Int)) j (h.pn z j hj') (fun _ h1 => by
      rcases hx6 with h2 | h2
      · rw [h2.1, h2.2]; exact h1
      · rw [h2.1, h2.2, hm.en, hm.ed]; exact bLe.rfl')
  · rw [hp] at he
    obtain ⟨z1, z2⟩ := hz z
    have hkn : (st'.nd a).kn = (st.nd a).kn := by
      rw [hn]; split
      · rename_i e; rw [hx4, ← e]
      · rfl
    rcases h.jj z p he with ⟨r1, r2, r3⟩ | ⟨r1, V, X, r2, r3, r4⟩
    · refine .inl ⟨r1, r2, fun j hj' => ?_⟩
      rw [hN] at hj'
      by_cases e : m.k = 1 ∧ m.dst = j
      · exact .inr (.inl (by rw [← e.2]; exact z1 e.1))
      · rcases r3 j hj' with h1 | h1 | h1
        · exact .inl (h1.tail hl e htl)
        · refine .inr (.inl (h1.tail hl (fun hh => ?_) htl))
          rcases hk with hk | hk <;> omega
        · exact .inr (.inr h1)
    · refine .inr ⟨r1, V, X, r2, fun j hj' => ?_, by rw [hq, hkn]; exact r4⟩
      rw [hN] at hj'
      by_cases e : m.k = 3 ∧ m.dst = j
      · exact .inr (.inl (by rw [← e.2]; exact z2 e.1))
      · rcases r3 j hj' with h1 | h1 | h1
        · exact .inl (h1.tail hl e htl)
        · refine .inr (.inl (h1.tail hl (fun hh => ?_) htl))
          rcases hk with hk | hk <;> omega
        · exact .inr (.inr h1)
theorem Rn.short (h : Rn st a n (t + 1) s0 p0 Z) (hl : st.l = m :: tl) (ht : t ≤ 100) : tl.length < 200 := by
  have h1 := h.phi
  rw [hl] at h1
  simp only [wts] at h1
  have := wts_len tl
  have := wt_pos m
  omega
theorem Rn.prep (h : Rn st a n (t + 1) s0 p0 Z) (hl : st.l = m :: tl) (hk : Kp st g S) (hm : LWf st.N m) (ht : t ≤ 100) (k1 : m.k = 1) : Rn (prepS { st with l := tl } m) a n t s0 p0 Z := by
  have hL := h.le m (by rw [hl]; exact List.mem_cons_self)
  have hsh := h.short hl ht
  have hw2 : wt m = 2 := by unfold wt; rw [if_pos k1]
  unfold prepS
  by_cases hb : lessB m.n m.d (st.nd m.dst).pn (st.nd m.dst).pd = true
  · rw [if_pos hb]
    refine h.bare hl (seesN (st.nd m.dst) m) rfl rfl rfl rfl rfl (.inl ⟨rfl, rfl⟩) rfl rfl [] (by simp [Sy.upd]) (fun x hx => by cases hx) (by simp [wts]; omega) (fun z => ?_) (.inl k1)
    have h1 := h.pn z m.dst hm.dst
    have h2 := less_lt hb
    rw [hL.en, hL.ed] at h2
    exact (h2.not h1).elim
  · rw [if_neg hb]
    have hn := hk.inv.nd m.dst hm.dst
    have hle := less_no (Bool.not_eq_true _ ▸ hb)
    refine h.bare hl (bindN (st.nd m.dst) m) rfl rfl rfl rfl rfl (.inr ⟨rfl, rfl⟩) (sendS_q _ _) (sendS_nd _ _) [⟨2, m.dst, m.fr, m.n, m.d, backV (st.nd m.dst)⟩] (sendS_l hsh _) (fun x hx => ?_) (by rw [hw2]; simp [wts, wt]) (fun z => ⟨fun _ => ⟨_, by rw [sendS_l hsh]; exact List.mem_append_right _ List.mem_cons_self, rfl, rfl⟩, fun h3 => by omega⟩) (.inl k1)
    obtain rfl := List.mem_singleton.1 hx
    refine ⟨hL.en, hL.ed, fun e => (by cases e), fun _ => hL.f1 k1, fun e => (by cases e), fun e => (by cases e), fun _ v hv => ?_⟩
    have hv : v ∈ backV (st.nd m.dst) := hv
    unfold backV at hv
    split at hv
    · rename_i hs
      obtain rfl := List.mem_singleton.1 hv
      rcases hn.vt with ⟨h1, _⟩ | ⟨_, h2, _⟩
      · omega
      · have h3 := (hn.ac _ _ h2).tr hle
        rw [hL.en, hL.ed] at h3
        exact h3
    · cases hv
theorem Rn.acpt (h : Rn st a n (t + 1) s0 p0 Z) (hl : st.l = m :: tl) (hm : LWf st.N m) (ht : t ≤ 100) (k3 : m.k = 3) : Rn (acptS { st with l := tl } m) a n t s0 p0 Z := by
  have hL := h.le m (by rw [hl]; exact List.mem_cons_self)
  have hsh := h.short hl ht
  have hw2 : wt m = 2 := by unfold wt; rw [if_neg (by omega), if_pos k3]
  unfold acptS
  by_cases hb : lessB m.n m.d (st.nd m.dst).pn (st.nd m.dst).pd = true
  · rw [if_pos hb]
    refine h.bare hl (seesN (st.nd m.dst) m) rfl rfl rfl rfl rfl (.inl ⟨rfl, rfl⟩) rfl rfl [] (by simp [Sy.upd]) (fun x hx => by cases hx) (by simp [wts]; omega) (fun z => ?_) (.inr k3)
    have h1 := h.pn z m.dst hm.dst
    have h2 := less_lt hb
    rw [hL.en, hL.ed] at h2
    exact (h2.not h1).elim
  · rw [if_neg hb]
    refine h.bare hl (voteN (st.nd m.dst) m) rfl rfl rfl rfl rfl (.inr ⟨rfl, rfl⟩) (sendS_q _ _) (sendS_nd _ _) [⟨4, m.dst, m.fr, m.n, m.d, []⟩] (sendS_l hsh _) (fun x hx => ?_) (by rw [hw2]; simp [wts, wt]) (fun z => ⟨fun h1 => by omega, fun _ => ⟨_, by rw [sendS_l hsh]; exact List.mem_append_right _ List.mem_cons_self, rfl, rfl⟩⟩) (.inr k3)
    obtain rfl := List.mem_singleton.1 hx
    exact ⟨hL.en, hL.ed, fun e => (by cases e), fun e => (by cases e), fun e => (by cases e), fun _ => hL.f3 k3, fun e => (by cases e)⟩

/-- A letter that node a's own proposer takes. -/
theorem Rn.own (h : Rn st a n (t + 1) s0 p0 Z) (hl : st.l = m :: tl) (x' : Nd) (hx2 : x'.bn = (st.nd a).bn) (hx3 : x'.bd = (st.nd a).bd) (hx5 : x'.seen = (st.nd a).seen) (hx6 : x'.pn = (st.nd a).pn ∧ x'.pd = (st.nd a).pd) (hq : st'.q = st.q) (hnd : st'.nd = (st.upd a x').nd)
    (b : List Lt) (hb : st'.l = tl ++ b) (hb1 : ∀ x ∈ b, LR a n x) (hphi : wts b + rsv st.N x' + 1 ≤ wt m + rsv st.N (st.nd a)) (hp : ∃ p, x'.p = some p) (hk : m.k ≠ 1)
    (hjj : Z → ∀ p, x'.p = some p →
    (readyB p = false ∧ p.sl 1 = none ∧ ∀ j, j < st.N → Has st' (fun m => m.k = 1 ∧ m.dst = j) ∨ Has st' (fun m => m.k = 2 ∧ m.fr = j) ∨ p.set.testBit j = true) ∨
    (readyB p = true ∧ ∃ V X, p.sl 1 = some (V, X) ∧ (∀ j, j < st.N → Has st' (fun m => m.k = 3 ∧ m.dst = j) ∨ Has st' (fun m => m.k = 4 ∧ m.fr = j) ∨ X.testBit j = true) ∧ (isQ st.q true X.testBit = true → x'.kn = true))) : Rn st' a n t s0 p0 Z := by
  have hN : st'.N = st.N := by unfold Sy.N; rw [hq]
  have hn : ∀ j, st'.nd j = if j = a then x' else st.nd j := fun j => by rw [hnd]; rfl
  have hna : st'.nd a = x' := by rw [hn, if_pos rfl]
  have htl : ∀ x ∈ tl, x ∈ st'.l := fun x hx => by rw [hb]; exact mem_left hx
  have hcase : ∀ (C : Nd → Prop) j, C (st.nd j) → (C (st.nd a) → C x') → C (st'.nd j) := fun C j h1 h2 => by
    rw [hn]
    split
    · rename_i e; subst e; exact h2 h1
    · exact h1
  refine ⟨by rw [hN]; exact h.ha, fun x hx => ?_, ?_, by rw [hna, hx2]; exact h.bn, by rw [hna, hx3]; exact h.bd, by rw [hna, hx5]; exact h.sa, fun j hj => ?_, fun j hj => ?_, fun j hj => ?_, by rw [hna]; exact hp, fun z j hj => ?_, fun z p he => ?_⟩
  · rw [hb] at hx
    rcases List.mem_append.1 hx with hx | hx
    · exact h.le x (by rw [hl]; exact List.mem_cons_of_mem _ hx)
    · exact hb1 x hx
  · have h1 := h.phi
    rw [hl] at h1
    simp only [wts] at h1
    rw [hb, wts_append, hN, hna]
    omega
  · rw [hN] at hj
    exact hcase (fun y => y.seen ≤ max (s0 j) n) j (h.sb j hj) (fun h1 => by rw [hx5]; exact h1)
  · rw [hN] at hj
    exact hcase (fun y => y.pn ≤ max (p0 j) n) j (h.pb j hj) (fun h1 => by rw [hx6.1]; exact h1)
  · rw [hN] at hj
    rcases h.see j hj with h1 | h1
    · exact .inl (h1.tail hl (fun hh => hk hh.1) htl)
    · exact .inr (hcase (fun y => n ≤ y.seen) j h1 (fun h1 => by rw [hx5]; exact h1))
  · rw [hN] at hj
    exact hcase (fun y => bLe y.pn y.pd n (a : Int)) j (h.pn z j hj) (fun h1 => by rw [hx6.1, hx6.2]; exact h1)
  · rw [hna] at he ⊢
    rw [hN, hq]
    exact hjj z p he
theorem upd_same (st : Sy) (a : Nat) : st.nd = (st.upd a (st.nd a)).nd := by
  funext j
  show st.nd j = if j = a then st.nd a else st.nd j
  split
  · rename_i e; rw [e]
  · rfl
theorem ready_congr {p p' : Ps} (hq : p'.q = p.q) (hs : p'.set = p.set) : readyB p' = readyB p := by unfold readyB; rw [hq, hs]
theorem prm_bit {p : Ps} {x : Nat} {vs : List Vt} (hE : prmE p (x : Int) vs = 0) (j : Nat) (h : p.set.testBit j = true ∨ j = x) : (prmP p (x : Int) vs).set.testBit j = true := by
  unfold prmP
  rw [Int.toNat_natCast]
  by_cases hb : p.set.testBit x = false
  · rw [if_pos ⟨hE, hb⟩]
    show (p.set ||| 2 ^ x).testBit j = true
    rw [Nat.testBit_or, Nat.testBit_two_pow]
    rcases h with h | h
    · rw [h]; rfl
    · subst h; simp
  · rw [if_neg (fun hh => hb hh.2)]
    rcases h with h | h
    · exact h
    · subst h; simpa using hb
theorem prm_e0 {p : Ps} {x : Nat} {vs : List Vt} {N : Nat} (hN : p.q.n = (N : Int)) (hx : x < N) (hf : p.f = 1) (hl : vs.length ≤ 1) (hv : ∀ v ∈ vs, v.s = 1 ∧ rightB v.n v.d = true ∧ bLt v.n v.d p.n p.d ∧ v.v.length ≤ 100) : prmE p (x : Int) vs = 0 := by
  unfold prmE
  have h1 : nodeB p (x : Int) = true := by unfold nodeB; rw [decide_eq_true_eq]; omega
  rw [if_pos h1]
  have h2 : rightV p.n p.d (p.f - 1) vs = true := by
    rw [hf]
    match vs, hl, hv with
    | [], _, _ => rfl
    | [v], _, hv =>
      obtain ⟨a1, a2, a3, a4⟩ := hv v List.mem_cons_self
      have a5 : lessB v.n v.d p.n p.d = true := lessB_iff.2 a3
      have a6 : ¬ 100 < v.v.length := by omega
      simp [rightV, oneV, a1, a2, a5, a6]
    | _ :: _ :: _, h, _ => simp at h
  rw [if_pos h2]
theorem Rn.prom (h : Rn st a n (t + 1) s0 p0 Z) (hl : st.l = m :: tl) (hk : Kp st g S) (hS : ∀ v, S v → v.length ≤ 100) (hm : LWf st.N m) (ht : t ≤ 100) (k2 : m.k = 2) : Rn (promS { st with l := tl } m) a n t s0 p0 Z := by
  have hin : m ∈ st.l := by rw [hl]; exact List.mem_cons_self
  have hL := h.le m hin
  have hLI := hk.inv.lt m hin
  have hd := hL.d2 k2
  have hw1 : wt m = 1 := by unfold wt; rw [if_neg (by omega), if_neg (by omega)]
  obtain ⟨p, hp⟩ := h.p
  have hwn := hk.wf.nd a h.ha
  obtain ⟨w1, w2, w3, w4⟩ := hwn.p p hp
  have hPI := (hk.inv.nd a h.ha).p p hp
  have htl : ∀ {b : List Lt} (x : Lt), x ∈ tl → x ∈ tl ++ b := fun x hx => mem_left hx
  have hnn : st.q.n = (st.N : Int) := hk.wf.n12.2.2
  unfold promS
  rw [hd]
  show Rn (match (st.nd a).p with
  | none => ({ st with l := tl } : Sy)
  | some p =>
    if sameB (st.nd a) m = true ∧ readyB p = false then
      if readyB (prmP p m.fr m.vs) = true then
        allS (({ st with l := tl } : Sy).upd a { st.nd a with p := some (proP (prmP p m.fr m.vs) 1 (st.nd a).val) })
          ⟨3, a, 0, (st.nd a).bn, (st.nd a).bd, [proV (prmP p m.fr m.vs) 1 (st.nd a).val]⟩ st.N
      else ({ st with l := tl } : Sy).upd a { st.nd a with p := some (prmP p m.fr m.vs) }
    else ({ st with l := tl } : Sy)) a n t s0 p0 Z
  rw [hp]
  simp only
  have hsame : sameB (st.nd a) m = true := sameB_iff.2 ⟨h.bn.trans hL.en.symm, h.bd.trans hL.ed.symm⟩
  cases hr : readyB p with
  | true =>
    rw [if_neg (fun hh => by cases hh.2)]
    refine h.own hl (st.nd a) rfl rfl rfl ⟨rfl, rfl⟩ rfl (upd_same st a) [] (by simp) (fun x hx => by cases hx) (by simp [wts]; omega) h.p (by omega) (fun z p' he => ?_)
    rw [hp] at he
    injection he with he
    subst he
    rcases h.jj z p hp with ⟨r1, _⟩ | ⟨r1, V, X, r2, r3, r4⟩
    · rw [hr] at r1; cases r1
    · refine .inr ⟨r1, V, X, r2, fun j hj => ?_, r4⟩
      rcases r3 j hj with h1 | h1 | h1
      · exact .inl (h1.tail hl (fun hh => by omega) (fun x hx => hx))
      · exact .inr (.inl (h1.tail hl (fun hh => by omega) (fun x hx => hx)))
      · exact .inr (.inr h1)
  | false =>
    rw [if_pos ⟨hsame, rfl⟩]
    have hP := hPI.prm w2 w3 hLI hm k2 (h.bn.trans hL.en.symm) (h.bd.trans hL.ed.symm)
    have q1 : (prmP p m.fr m.vs).q = p.q := prmP_q _ _ _
    have q2 := prmP_nd p m.fr m.vs
    have q3 : (prmP p m.fr m.vs).f = p.f := prmP_f _ _ _
    have q4 : (prmP p m.fr m.vs).sl = p.sl := prmP_sl _ _ _
    have hE : Z → prmE p m.fr m.vs = 0 := fun z => by
      refine prm_e0 (N := st.N) (by rw [w1]; exact hnn) hm.fr w4 hm.len (fun v hv => ?_)
      obtain ⟨_, k3, _⟩ := hLI.k2 k2
      obtain ⟨s1, s2⟩ := k3 v hv
      obtain ⟨⟨u1, u2, u3, u4⟩, u5⟩ := hk.inv.used _ _ _ s2
      have hN12 := hk.wf.n12.2.1
      refine ⟨s1, by unfold rightB; rw [decide_eq_true_eq]; omega, ?_, hS _ u5⟩
      rcases h.jj z p hp with ⟨_, r2, _⟩ | ⟨r1, _⟩
      · have h1 := hL.v2 k2 v hv
        rw [w2, w3, h.bn, h.bd]
        rcases b3 v.n v.d n (a : Int) with h2 | ⟨h2, h3⟩ | h2
        · exact h2
        · exfalso
          rcases hPI.sl with ⟨_, g0⟩ | ⟨V, X, g0, _⟩
          · rw [h.bn, h.bd, ← h2, ← h3, s2] at g0; cases g0
          · rw [r2] at g0; cases g0
        · exact (h2.not h1).elim
      · rw [hr] at r1; cases r1
    have hbit : Z → ∀ j, p.set.testBit j = true ∨ j = m.fr → (prmP p m.fr m.vs).set.testBit j = true := fun z j hj => prm_bit (hE z) j hj
    have hsl : Z → p.sl 1 = none ∧ ∀ j, j < st.N → Has st (fun m => m.k = 1 ∧ m.dst = j) ∨ Has st (fun m => m.k = 2 ∧ m.fr = j) ∨ p.set.testBit j = true := fun z => by
      rcases h.jj z p hp with ⟨_, r2, r3⟩ | ⟨r1, _⟩
      · exact ⟨r2, r3⟩
      · rw [hr] at r1; cases r1
    clear hE
    generalize prmP p m.fr m.vs = p1 at hP q1 q2 q3 q4 hbit
    have hrsv : rsv st.N (st.nd a) = 2 * st.N := by unfold rsv; rw [hp]; simp only; rw [hr]; rfl
    by_cases hr1 : readyB p1 = true
    · rw [if_pos hr1]
      have hr2 : readyB (proP p1 1 (st.nd a).val) = true := by rw [ready_congr (proP_q _ _ _) (proP_set _ _ _)]; exact hr1
      have hlen : tl.length + st.N ≤ 200 := by have := h.phi; rw [hl] at this; simp only [wts] at this; have := wts_len tl; omega
      have hal := allS_l (({ st with l := tl } : Sy).upd a { st.nd a with p := some (proP p1 1 (st.nd a).val) }) ⟨3, a, 0, (st.nd a).bn, (st.nd a).bd, [proV p1 1 (st.nd a).val]⟩ st.N hlen
      refine h.own hl { st.nd a with p := some (proP p1 1 (st.nd a).val) } rfl rfl rfl ⟨rfl, rfl⟩ (allS_q _ _ _) (allS_nd _ _ _) _ hal (fun x hx => ?_) ?_ ⟨_, rfl⟩ (by omega) (fun z p' he => ?_)
      · obtain ⟨i, _, rfl⟩ := List.mem_map.1 hx
        exact ⟨h.bn, h.bd, fun e => (by cases e), fun e => (by cases e), fun _ => rfl, fun e => (by cases e), fun e => (by cases e)⟩
      · rw [wts_two _ (fun i => rfl), hrsv, hw1]
        unfold rsv
        simp only
        rw [hr2]
        simp
        omega
      · injection he with he
        subst he
        obtain ⟨sn, hs⟩ := hsl z
        have hsafe := (hP.safe hk.inv (q1.trans w1) hr1).2
        have e0 : proE p1 1 (st.nd a).val = 0 := by
          unfold proE
          rw [if_pos hr1, q3, w4, if_neg (by omega), q4, sn]
          simp only
          rw [if_neg (by have := hS _ hsafe; omega)]
        refine .inr ⟨hr2, ⟨1, p1.n, p1.d, proVal p1 1 (st.nd a).val⟩, 0, ?_, fun j hj => .inl ⟨_, by rw [hal]; exact List.mem_append_right _ (List.mem_map.2 ⟨j, List.mem_range.2 hj, rfl⟩), rfl, rfl⟩, fun hq => ?_⟩
        · unfold proP
          rw [if_pos e0, q4, sn]
          show Go.Proofs.Ytkpfgoalohbfeaa.upd p1.sl 1 _ 1 = _
          unfold Go.Proofs.Ytkpfgoalohbfeaa.upd
          rfl
        · exfalso
          have h0 : isQ st.q true (fun _ => false) = isQ st.q true (Nat.testBit 0) := isQ_congr fun i _ => (Nat.zero_testBit i).symm
          rw [none_q, hq] at h0
          cases h0
    · rw [if_neg hr1]
      have hr1' : readyB p1 = false := by simpa using hr1
      refine h.own hl { st.nd a with p := some p1 } rfl rfl rfl ⟨rfl, rfl⟩ rfl rfl [] (by simp [Sy.upd]) (fun x hx => by cases hx) ?_ ⟨_, rfl⟩ (by omega) (fun z p' he => ?_)
      · rw [hrsv, hw1]
        unfold rsv
        simp only
        rw [hr1']
        simp [wts]
        omega
      · injection he with he
        subst he
        obtain ⟨sn, hs⟩ := hsl z
        refine .inl ⟨hr1', by rw [q4]; exact sn, fun j hj => ?_⟩
        by_cases e : j = m.fr
        · exact .inr (.inr (hbit z j (.inr e)))
        · rcases hs j hj with h1 | h1 | h1
          · exact .inl (h1.tail hl (fun hh => by omega) (fun x hx => hx))
          · exact .inr (.inl (h1.tail hl (fun hh => e hh.2.symm) (fun x hx => hx)))
          · exact .inr (.inr (hbit z j (.inl h1)))
theorem Rn.acd (h : Rn st a n (t + 1) s0 p0 Z) (hl : st.l = m :: tl) (hk : Kp st g S) (hm : LWf st.N m) (k4 : m.k = 4) : Rn (acdS { st with l := tl } m) a n t s0 p0 Z := by
  have hin : m ∈ st.l := by rw [hl]; exact List.mem_cons_self
  have hL := h.le m hin
  have hd := hL.d4 k4
  have hw1 : wt m = 1 := by unfold wt; rw [if_neg (by omega), if_neg (by omega)]
  obtain ⟨p, hp⟩ := h.p
  have hwn := hk.wf.nd a h.ha
  obtain ⟨w1, w2, w3, w4⟩ := hwn.p p hp
  have hnn : st.q.n = (st.N : Int) := hk.wf.n12.2.2
  have hsame : sameB (st.nd a) m = true := sameB_iff.2 ⟨h.bn.trans hL.en.symm, h.bd.trans hL.ed.symm⟩
  have hr : readyB (accP p m.fr 1) = readyB p := ready_congr (accP_q _ _ _) (accP_set _ _ _)
  have key : ∀ x' : Nd, x'.bn = (st.nd a).bn → x'.bd = (st.nd a).bd → x'.seen = (st.nd a).seen → x'.pn = (st.nd a).pn ∧ x'.pd = (st.nd a).pd → x'.p = some (accP p m.fr 1) →
      ((st.nd a).kn = true → x'.kn = true) → ((∃ v, chB (accP p m.fr 1) 1 = some v) → x'.kn = true) → Rn (({ st with l := tl } : Sy).upd a x') a n t s0 p0 Z := fun x' e1 e2 e3 e4 e5 e6 e7 => by
    refine h.own hl x' e1 e2 e3 e4 rfl rfl [] (by simp [Sy.upd]) (fun x hx => by cases hx) ?_ ⟨_, e5⟩ (by omega) (fun z p' he => ?_)
    · unfold rsv
      rw [e5, hp, hw1]
      simp only
      rw [hr]
      simp [wts]
      omega
    · rw [e5] at he
      injection he with he
      subst he
      rcases h.jj z p hp with ⟨r1, r2, r3⟩ | ⟨r1, V, X, r2, r3, r4⟩
      · refine .inl ⟨by rw [hr]; exact r1, ?_, fun j hj => ?_⟩
        · unfold accP
          split
          · rw [r2]; simp only; exact r2
          · exact r2
        · rw [accP_set]
          rcases r3 j hj with h1 | h1 | h1
          · exact .inl (h1.tail hl (fun hh => by omega) (fun x hx => hx))
          · exact .inr (.inl (h1.tail hl (fun hh => by omega) (fun x hx => hx)))
          · exact .inr (.inr h1)
      · have hac : (accP p m.fr 1).sl 1 = some (V, X ||| 2 ^ m.fr) := by
          unfold accP
          have h1 : nodeB p (m.fr : Int) = true := by
            unfold nodeB
            rw [decide_eq_true_eq, w1, hnn]
            have := hm.fr
            omega
          rw [if_pos h1, r2]
          simp only [Int.toNat_natCast]
          unfold Go.Proofs.Ytkpfgoalohbfeaa.upd
          rfl
        refine .inr ⟨by rw [hr]; exact r1, V, X ||| 2 ^ m.fr, hac, fun j hj => ?_, fun hq => ?_⟩
        · rw [Nat.testBit_or, Nat.testBit_two_pow]
          by_cases e : j = m.fr
          · subst e; exact .inr (.inr (by simp))
          · rcases r3 j hj with h1 | h1 | h1
            · exact .inl (h1.tail hl (fun hh => by omega) (fun x hx => hx))
            · exact .inr (.inl (h1.tail hl (fun hh => e hh.2.symm) (fun x hx => hx)))
            · exact .inr (.inr (by rw [h1]; rfl))
        · refine e7 ⟨V.v, ?_⟩
          unfold chB
          rw [hac]
          show (if isQ (accP p m.fr 1).q true (X ||| 2 ^ m.fr).testBit = true then some V.v else none) = some V.v
          rw [accP_q, w1, if_pos hq]
  unfold acdS
  rw [hd]
  show Rn (match (st.nd a).p with
  | none => ({ st with l := tl } : Sy)
  | some p =>
    if sameB (st.nd a) m = true then
      match chB (accP p m.fr 1) 1 with
      | some v => ({ st with l := tl } : Sy).upd a { st.nd a with p := some (accP p m.fr 1), ln := v, kn := true }
      | none => ({ st with l := tl } : Sy).upd a { st.nd a with p := some (accP p m.fr 1) }
    else ({ st with l := tl } : Sy)) a n t s0 p0 Z
  rw [hp]
  simp only
  rw [if_pos hsame]
  cases hch : chB (accP p m.fr 1) 1 with
  | some v => exact key { st.nd a with p := some (accP p m.fr 1), ln := v, kn := true } rfl rfl rfl ⟨rfl, rfl⟩ rfl (fun _ => rfl) (fun _ => rfl)
  | none => exact key { st.nd a with p := some (accP p m.fr 1) } rfl rfl rfl ⟨rfl, rfl⟩ rfl id (fun ⟨v, hv⟩ => by rw [hch] at hv; cases hv)
theorem Rn.take (h : Rn st a n (t + 1) s0 p0 Z) (hl : st.l = m :: tl) (hk : Kp st g S) (hS : ∀ v, S v → v.length ≤ 100) (ht : t ≤ 100) : Rn (takeS st 0) a n t s0 p0 Z := by
  have hin : m ∈ st.l := by rw [hl]; exact List.mem_cons_self
  have hm := hk.wf.lt m hin
  have h1 : takeS st 0 = arrS { st with l := tl } m := by
    have e1 : st.atL 0 = some m := by unfold Sy.atL; rw [if_pos (Int.le_refl 0), hl]; rfl
    have e2 : st.cut (0 : Int).toNat = { st with l := tl } := by unfold Sy.cut; rw [hl]; rfl
    unfold takeS
    rw [e1]
    simp only
    rw [e2]
  rw [h1]
  unfold arrS
  by_cases k1 : m.k = 1
  · rw [if_pos k1]; exact h.prep hl hk hm ht k1
  · rw [if_neg k1]
    by_cases k2 : m.k = 2
    · rw [if_pos k2]; exact h.prom hl hk hS hm ht k2
    · rw [if_neg k2]
      by_cases k3 : m.k = 3
      · rw [if_pos k3]; exact h.acpt hl hm ht k3
      · rw [if_neg k3]
        refine h.acd hl hk hm ?_
        rcases (hk.inv.lt m hin).k with h | h | h | h <;> omega
theorem take0_nil (h : st.l = []) : takeS st 0 = st := by
  have e1 : st.atL 0 = none := by unfold Sy.atL; rw [if_pos (Int.le_refl 0), h]; rfl
  unfold takeS
  rw [e1]
theorem Rn.run (hS : ∀ v, S v → v.length ≤ 100) : ∀ (k t : Nat) {st : Sy} {g : Gh}, Rn st a n t s0 p0 Z → Kp st g S → t ≤ 100 → ∃ t' g', Rn (tk0 st k) a n t' s0 p0 Z ∧ Kp (tk0 st k) g' S ∧ g.le g' ∧ (t' + k ≤ t ∨ (tk0 st k).l = [])
  | 0, t, st, g, h, hk, _ => ⟨t, g, h, hk, g.le_refl, .inl (Nat.le_refl _)⟩
  | k + 1, t, st, g, h, hk, ht => by
    obtain ⟨t', g', r1, r2, r3, r4⟩ := Rn.run hS k t h hk ht
    show ∃ t2 g2, Rn (takeS (tk0 st k) 0) a n t2 s0 p0 Z ∧ Kp (takeS (tk0 st k) 0) g2 S ∧ g.le g2 ∧ (t2 + (k + 1) ≤ t ∨ (takeS (tk0 st k) 0).l = [])
    cases hl : (tk0 st k).l with
    | nil => rw [take0_nil hl]; exact ⟨t', g', r1, r2, r3, .inr hl⟩
    | cons m tl =>
      rcases r4 with r4 | r4
      · obtain ⟨u, hu⟩ : ∃ u, t' = u + 1 := by
          have := r1.phi
          rw [hl] at this
          simp only [wts] at this
          have := wt_pos m
          exact ⟨t' - 1, by omega⟩
        subst hu
        obtain ⟨g2, k1, k2⟩ := r2.take hS 0
        exact ⟨u, g2, r1.take hl r2 hS (by omega), k1, Gh.le_tr r3 k2, .inl (by omega)⟩
      · rw [hl] at r4; cases r4
theorem Has.nil (h : Has st P) (hl : st.l = []) : False := by obtain ⟨x, h1, _⟩ := h; rw [hl] at h1; cases h1
theorem Rn.start {v : List UInt8} (hk : Kp st g S) (hl : st.l = []) (ha : a < st.N) (hE : startE st (a : Int) v = 0) :
    Rn (startS st (a : Int) v) a ((st.nd a).seen + 1) (4 * st.N) (fun j => (st.nd j).seen) (fun j => (st.nd j).pn) (∀ j, j < st.N → (st.nd j).pn ≤ (st.nd a).seen) := by
  have hN12 := hk.wf.n12.2.1
  unfold startS
  rw [if_pos hE, Int.toNat_natCast]
  have hal := allS_l (st.upd a (startN st a v)) (startL st a) st.N (by show st.l.length + st.N ≤ 200; rw [hl]; simp; omega)
  have hlq : (st.upd a (startN st a v)).l = [] := hl
  rw [hlq, List.nil_append] at hal
  have hnd : ∀ j, (allS (st.upd a (startN st a v)) (startL st a) st.N).nd j = if j = a then startN st a v else st.nd j := fun j => by rw [allS_nd]; rfl
  have hNN : (allS (st.upd a (startN st a v)) (startL st a) st.N).N = st.N := allS_N _ _ _
  have hq : (allS (st.upd a (startN st a v)) (startL st a) st.N).q = st.q := allS_q _ _ _
  generalize allS (st.upd a (startN st a v)) (startL st a) st.N = st' at hal hnd hNN hq
  have hna : st'.nd a = startN st a v := by rw [hnd, if_pos rfl]
  have hcase : ∀ (C : Nd → Prop) j, C (st.nd j) → (j = a → C (startN st a v)) → C (st'.nd j) := fun C j h1 h2 => by
    rw [hnd]
    split
    · rename_i e; exact h2 e
    · exact h1
  have hhas : ∀ j, j < st'.N → Has st' (fun m => m.k = 1 ∧ m.dst = j) := fun j hj => ⟨_, by rw [hal]; exact List.mem_map.2 ⟨j, List.mem_range.2 (by rw [hNN] at hj; exact hj), rfl⟩, rfl, rfl⟩
  have hr0 : readyB (newP st.q ((st.nd a).seen + 1) (a : Int) 1) = false := by
    show isQ st.q false (Nat.testBit 0) = false
    have h0 : isQ st.q false (fun _ => false) = isQ st.q false (Nat.testBit 0) := isQ_congr fun i _ => (Nat.zero_testBit i).symm
    rw [← h0, none_q]
  refine ⟨by rw [hNN]; exact ha, fun x hx => ?_, ?_, by rw [hna]; rfl, by rw [hna]; rfl, by rw [hna]; rfl, fun j hj => ?_, fun j hj => ?_, fun j hj => .inl (hhas j hj), ⟨_, by rw [hna]; rfl⟩, fun z j hj => ?_, fun z p he => ?_⟩
  · rw [hal] at hx
    obtain ⟨i, _, rfl⟩ := List.mem_map.1 hx
    exact ⟨rfl, rfl, fun _ => rfl, fun e => (by cases e), fun e => (by cases e), fun e => (by cases e), fun e => (by cases e)⟩
  · rw [hal, wts_two _ (fun i => rfl), hna, hNN]
    have : rsv st.N (startN st a v) = 2 * st.N := by
      unfold rsv startN
      simp only
      rw [hr0]
      rfl
    omega
  · exact hcase (fun y => y.seen ≤ max (st.nd j).seen ((st.nd a).seen + 1)) j (Nat.le_max_left _ _) (fun _ => Nat.le_max_right _ _)
  · refine hcase (fun y => y.pn ≤ max (st.nd j).pn ((st.nd a).seen + 1)) j (Nat.le_max_left _ _) (fun e => by subst e; exact Nat.le_max_left _ _)
  · rw [hNN] at hj
    have h1 : bLe (st.nd j).pn (st.nd j).pd ((st.nd a).seen + 1) (a : Int) := .inl (by have := z j hj; omega)
    exact hcase (fun y => bLe y.pn y.pd ((st.nd a).seen + 1) (a : Int)) j h1 (fun e => by subst e; exact h1)
  · rw [hna] at he
    injection he with he
    subst he
    exact .inl ⟨hr0, rfl, fun j hj => .inl (hhas j hj)⟩
/-- A round of one node, nothing else being under way. -/
def rndS (st : Sy) (a : Nat) (v : List UInt8) : Sy := tk0 (startS st (a : Int) v) 200
theorem rnd {v : List UInt8} (hk : Kp st g S) (hS : ∀ v, S v → v.length ≤ 100) (hl : st.l = []) (ha : a < st.N) (hv : v.length ≤ 100) (hvS : S v) (hs : (st.nd a).seen < lastN) :
    ∃ g', Kp (rndS st a v) g' S ∧ g.le g' ∧ (rndS st a v).l = [] ∧ (rndS st a v).q = st.q ∧ ((rndS st a v).nd a).seen = (st.nd a).seen + 1 ∧ (∀ j, j < st.N → (st.nd a).seen + 1 ≤ ((rndS st a v).nd j).seen) ∧
    (∀ j, j < st.N → ((rndS st a v).nd j).seen ≤ max (st.nd j).seen ((st.nd a).seen + 1)) ∧ (∀ j, j < st.N → ((rndS st a v).nd j).pn ≤ max (st.nd j).pn ((st.nd a).seen + 1)) ∧
    ((∀ j, j < st.N → (st.nd j).pn ≤ (st.nd a).seen) → ((rndS st a v).nd a).kn = true) ∧ ((st.nd a).kn = true → ((rndS st a v).nd a).kn = true) := by
  have hN12 := hk.wf.n12.2.1
  have hnn := hk.wf.n12.2.2
  have hE : startE st (a : Int) v = 0 := by
    unfold startE
    rw [if_pos ⟨by omega, by omega, hv⟩, Int.toNat_natCast, if_neg (by omega)]
  have hR := Rn.start hk hl ha hE
  have hk2 : Kp (startS st (a : Int) v) g S := hk.start _ (fun _ => hvS)
  obtain ⟨t', g', r1, r2, r3, r4⟩ := Rn.run hS 200 _ hR hk2 (by omega)
  have hgo := (start_go st (a : Int) v)
  have hgo2 := tk0_go (startS st (a : Int) v) 200
  have hq : (tk0 (startS st (a : Int) v) 200).q = st.q := hgo2.1.q.trans hgo.1.q
  have hN : (tk0 (startS st (a : Int) v) 200).N = st.N := by unfold Sy.N; rw [hq]
  have hkn : (st.nd a).kn = true → ((tk0 (startS st (a : Int) v) 200).nd a).kn = true := fun h => hgo2.2 a (hgo.2 a h)
  unfold rndS
  generalize tk0 (startS st (a : Int) v) 200 = st' at r1 r2 r4 hq hN hkn
  have hnil : st'.l = [] := by
    rcases r4 with r4 | r4
    · omega
    · exact r4
  refine ⟨g', r2, r3, hnil, hq, r1.sa, fun j hj => ?_, fun j hj => r1.sb j (by rw [hN]; exact hj), fun j hj => r1.pb j (by rw [hN]; exact hj), fun z => ?_, hkn⟩
  · rcases r1.see j (by rw [hN]; exact hj) with h1 | h1
    · exact (h1.nil hnil).elim
    · exact h1
  · obtain ⟨p, hp⟩ := r1.p
    have hwp := (r2.wf.nd a r1.ha).p p hp
    have hok : okQ st'.q = true := by unfold okQ; rw [r2.wf.ok.right]; rfl
    have hall : ∀ (sec : Bool) (X : Nat), (∀ j, j < st'.N → X.testBit j = true) → isQ st'.q sec X.testBit = true := fun sec X hX =>
      isQ_mono (p := fun _ => true) (fun i hi _ => hX i hi) (by rw [all_q]; exact hok)
    rcases r1.jj z p hp with ⟨a1, _, a3⟩ | ⟨_, V, X, _, a3, a4⟩
    · have : readyB p = true := by
        unfold readyB
        rw [hwp.1]
        refine hall false _ (fun j hj => ?_)
        rcases a3 j hj with h1 | h1 | h1
        · exact (h1.nil hnil).elim
        · exact (h1.nil hnil).elim
        · exact h1
      rw [this] at a1; cases a1
    · refine a4 (hall true _ fun j hj => ?_)
      rcases a3 j hj with h1 | h1 | h1
      · exact (h1.nil hnil).elim
      · exact (h1.nil hnil).elim
      · exact h1

/-- Rounds of one node o, k of them. -/
structure Ph (st : Sy) (g : Gh) (o k B : Nat) : Prop where
  kp : Kp st g Lim
  nil : st.l = []
  ho : o < st.N
  lo : k ≤ (st.nd o).seen
  pn : ∀ j, j < st.N → (st.nd j).pn ≤ max 60 (st.nd o).seen
  hi : ∀ j, j < st.N → (st.nd j).seen ≤ B + k
  kn : 61 ≤ k → (st.nd o).kn = true
  up : 1 ≤ k → ∀ j, j < st.N → (st.nd o).seen ≤ (st.nd j).seen
theorem Ph.next {o k B : Nat} {v : List UInt8} (h : Ph st g o k B) (hv : v.length ≤ 100) (hB : B + k < 1000) : ∃ g', Ph (rndS st o v) g' o (k + 1) B ∧ g.le g' := by
  have h1 := h.hi o h.ho
  obtain ⟨g', e1, e2, e3, e4, e5, e6, e7, e8, e9, e10⟩ := rnd h.kp (fun _ h => h) h.nil h.ho hv hv (by unfold lastN; omega)
  have hN : (rndS st o v).N = st.N := by unfold Sy.N; rw [e4]
  refine ⟨g', ⟨e1, e3, by rw [hN]; exact h.ho, by rw [e5]; have := h.lo; omega, fun j hj => ?_, fun j hj => ?_, fun hk => ?_, fun _ j hj => ?_⟩, e2⟩
  · rw [hN] at hj
    have h2 := e8 j hj
    have h3 := h.pn j hj
    rw [e5]
    omega
  · rw [hN] at hj
    have h2 := e7 j hj
    have h3 := h.hi j hj
    omega
  · refine e9 fun j hj => ?_
    have h2 := h.pn j hj
    have h3 := h.lo
    omega
  · rw [hN] at hj
    rw [e5]
    exact e6 j hj
/-- No node has met a greater number than B. -/
def Bd (st : Sy) (B : Nat) : Prop := ∀ j, j < st.N → (st.nd j).seen ≤ B
variable {B : Nat}
theorem Bd.at' (h : Bd st B) (i : Nat) {x' : Nd} (hq : st'.q = st.q) (hnd : st'.nd = (st.upd i x').nd) (hx : i < st.N → (st.nd i).seen ≤ B → x'.seen ≤ B) : Bd st' B := fun j hj => by
  have hN : st'.N = st.N := by unfold Sy.N; rw [hq]
  rw [hN] at hj
  rw [hnd]
  by_cases e : j = i
  · subst e; rw [upd_nd]; exact hx hj (h j hj)
  · rw [upd_ne st _ e]; exact h j hj
theorem Bd.arr (h : Bd st B) (hm : m.n ≤ B) : Bd (arrS st m) B := by
  have hmx : ∀ {c : Nat}, c ≤ B → max c m.n ≤ B := fun hc => Nat.max_le.2 ⟨hc, hm⟩
  unfold arrS
  split
  · unfold prepS
    split
    · exact h.at' m.dst rfl rfl (fun _ hc => hmx hc)
    · exact h.at' m.dst (sendS_q _ _) (sendS_nd _ _) (fun _ hc => hmx hc)
  · split
    · unfold promS
      cases (st.nd m.dst).p with
      | none => exact h
      | some p =>
        simp only
        split
        · split
          · exact h.at' m.dst (allS_q _ _ _) (allS_nd _ _ _) (fun _ hc => hc)
          · exact h.at' m.dst rfl rfl (fun _ hc => hc)
        · exact h
    · split
      · unfold acptS
        split
        · exact h.at' m.dst rfl rfl (fun _ hc => hmx hc)
        · exact h.at' m.dst (sendS_q _ _) (sendS_nd _ _) (fun _ hc => hmx hc)
      · unfold acdS
        cases (st.nd m.dst).p with
        | none => exact h
        | some p =>
          simp only
          split
          · cases chB (accP p m.fr 1) 1 with
            | none => exact h.at' m.dst rfl rfl (fun _ hc => hc)
            | some v => exact h.at' m.dst rfl rfl (fun _ hc => hc)
          · exact h
theorem Bd.take (h : Bd st B) (hk : Kp st g S) (a : Int) : Bd (takeS st a) B := by
  unfold takeS
  cases hm : st.atL a with
  | none => exact h
  | some m =>
    have hin : m ∈ st.l := by
      unfold Sy.atL at hm
      split at hm
      · exact List.mem_of_getElem? hm
      · cases hm
    obtain ⟨u1, u2, u3, u4⟩ := (hk.inv.lt m hin).used
    have h1 := h m.d.toNat (by omega)
    have hc : Bd (st.cut a.toNat) B := h
    exact hc.arr (by omega)
theorem Bd.tk0 (h : Bd st B) (hk : Kp st g S) (hS : ∀ v, S v → v.length ≤ 100) : ∀ k, Bd (tk0 st k) B
  | 0 => h
  | k + 1 => by
    obtain ⟨g', h1, _⟩ := hk.tk0 hS k
    exact (Bd.tk0 h hk hS k).take h1 0
theorem Bd.act (h : Bd st B) (hk : Kp st g S) (hS : ∀ v, S v → v.length ≤ 100) (x : Ac) : Bd (actS st x) (B + 1) := by
  have up : ∀ {st : Sy}, Bd st B → Bd st (B + 1) := fun h j hj => Nat.le_succ_of_le (h j hj)
  unfold actS
  split
  · unfold startS
    split
    · exact (up h).at' _ (allS_q _ _ _) (allS_nd _ _ _) (fun hi _ => Nat.succ_le_succ (h _ hi))
    · exact up h
  · split
    · exact up (h.take hk _)
    · split
      · unfold dropS
        cases st.atL (atI x.a st.l.length) with
        | none => exact up h
        | some m => exact up h
      · split
        · unfold twicS
          cases st.atL (atI x.a st.l.length) with
          | none => exact up h
          | some m =>
            refine up ?_
            intro j hj
            rw [sendS_N] at hj
            rw [sendS_nd]
            exact h j hj
        · split
          · unfold crashS
            split
            · exact (up h).at' _ rfl rfl (fun _ hc => hc)
            · exact up h
          · exact up (h.tk0 hk hS 60)
/-- The first phase, when nothing is under way any more. -/
theorem Ph.first {o : Nat} (hk : Kp st g Lim) (hB : Bd st 60) (hl : st.l = []) (ho : o < st.N) : Ph st g o 0 60 := by
  refine ⟨hk, hl, ho, Nat.zero_le _, fun j hj => ?_, hB, fun h => by omega, fun h => by omega⟩
  rcases (hk.inv.nd j hj).pr with h1 | ⟨_, u2, u3, u4⟩
  · rw [h1]; exact Nat.zero_le _
  · have := hB (st.nd j).pd.toNat (by omega)
    omega
/-- Another one, behind it. -/
theorem Ph.other {o u k B : Nat} (h : Ph st g o k B) (hk : 1 ≤ k) (hu : u < st.N) : Ph st g u 0 (B + k) := by
  refine ⟨h.kp, h.nil, hu, Nat.zero_le _, fun j hj => ?_, h.hi, fun h => by omega, fun h => by omega⟩
  have h1 := h.pn j hj
  have h2 := h.up hk u hu
  omega
/-- Letters are taken, while there are any. -/
theorem tk0_stop {k : Nat} (h : (tk0 st k).l = []) : ∀ j, tk0 st (k + j) = tk0 st k
  | 0 => rfl
  | j + 1 => by
    show takeS (tk0 st (k + j)) 0 = _
    rw [tk0_stop h j, take0_nil h]
end
end Go.Proofs.Ytkpfgoalohbfeaa
