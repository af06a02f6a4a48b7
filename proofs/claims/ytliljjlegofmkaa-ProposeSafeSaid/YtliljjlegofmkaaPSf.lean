/- The heart of flexible Paxos, plainly: rounds of rising ballots. -/
import Derived.Test.YtliljjlegofmkaaPMw
namespace Go.Proofs.Ytliljjlegofmkaa

def ballN (i : Nat) : Nat := i / 2 + 1
def ballD (i : Nat) : Int := ((i % 2 : Nat) : Int)
theorem ball_right (i : Nat) : rightB (ballN i) (ballD i) = true := by
  unfold rightB ballN ballD; rw [decide_eq_true_eq]; omega
theorem ball_up {a : Nat} {b : Int} {i : Nat} (h : lessB a b (ballN i) (ballD i) = true) : lessB a b (ballN (i + 1)) (ballD (i + 1)) = true := by
  unfold ballN ballD at *; rw [lessB_iff] at *; omega
theorem ball_next (i : Nat) : lessB (ballN i) (ballD i) (ballN (i + 1)) (ballD (i + 1)) = true := by
  unfold ballN ballD; rw [lessB_iff]; omega
theorem less_irr (a : Nat) (b : Int) : lessB a b a b = false := by rw [lessB_no]; omega
theorem less_tr {a c e : Nat} {b d f : Int} (h1 : lessB a b c d = false) (h2 : lessB c d e f = false) : lessB a b e f = false := by
  rw [lessB_no] at *; omega
theorem less_of {a c : Nat} {b d : Int} (h : lessB a b c d = true) : lessB c d a b = false := by
  rw [lessB_no]; rw [lessB_iff] at h; omega

/-- A node's vote, ahead of round i. -/
def VtI (i : Nat) (vt : Nat → Option Vt) : Prop := ∀ n v, vt n = some v → v.s = 1 ∧ rightB v.n v.d = true ∧ lessB v.n v.d (ballN i) (ballD i) = true ∧ v.v.length ≤ 100
theorem VtI.up {i : Nat} {vt : Nat → Option Vt} (h : VtI i vt) : VtI (i + 1) vt := fun n v hv => by
  obtain ⟨h1, h2, h3, h4⟩ := h n v hv
  exact ⟨h1, h2, ball_up h3, h4⟩
def SafeI (i : Nat) (q : Qu) (vt : Nat → Option Vt) (won : Bool) (first : List UInt8) : Prop :=
  won = true → ∃ (kn : Nat) (kd : Int) (X : Nat → Bool), lessB kn kd (ballN i) (ballD i) = true ∧ isQ q true X = true ∧ (∀ n, n < q.n.toNat → X n = true → ∃ v, vt n = some v ∧ lessB v.n v.d kn kd = false) ∧ ∀ n v, vt n = some v → lessB v.n v.d kn kd = false → v.v = first

/-- The round's proposer, while nodes 0 .. n - 1 have promised. -/
structure SfP (p : Ps) (q : Qu) (i n X : Nat) (vt : Nat → Option Vt) (all : List Vt) : Prop where
  q : p.q = q
  f : p.f = 1
  bn : p.n = ballN i
  bd : p.d = ballD i
  sl : ∀ j, p.sl j = none
  set : ∀ j, p.set.testBit j = (decide (j < n) && X.testBit j)
  mu : MuAll (p.mu 1) all
  inn : ∀ j, j < n → X.testBit j = true → ∀ v, vt j = some v → v ∈ all
  out : ∀ v ∈ all, ∃ j, vt j = some v
theorem SfP.new (q : Qu) (i X : Nat) (vt : Nat → Option Vt) : SfP (newP q (ballN i) (ballD i) 1) q i 0 X vt [] :=
  ⟨rfl, rfl, rfl, rfl, fun _ => rfl, fun j => by show (0 : Nat).testBit j = _; simp, .inl ⟨rfl, rfl⟩, fun j hj => by omega, fun v hv => by simp at hv⟩
section
variable {p : Ps} {q : Qu} {i n X : Nat} {vt : Nat → Option Vt} {all : List Vt}
theorem SfP.skip (h : SfP p q i n X vt all) (hb : X.testBit n = false) : SfP p q i (n + 1) X vt all := by
  refine ⟨h.q, h.f, h.bn, h.bd, h.sl, fun j => ?_, h.mu, fun j hj hx => ?_, h.out⟩
  · rw [h.set j]
    by_cases hj : j = n
    · subst hj; simp [hb]
    · rw [show decide (j < n) = decide (j < n + 1) by rw [decide_eq_decide]; omega]
  · by_cases hjn : j = n
    · subst hjn; rw [hb] at hx; cases hx
    · exact h.inn j (by omega) hx
theorem SfP.prmE (h : SfP p q i n X vt all) (hv : VtI i vt) (hn : n < q.n.toNat) : prmE p (n : Int) (vt n).toList = 0 := by
  have hnb : nodeB p (n : Int) = true := by
    unfold nodeB; rw [h.q, decide_eq_true_eq]; omega
  have hr : rightV p.n p.d (p.f - 1) (vt n).toList = true := by
    cases hvn : vt n with
    | none => rfl
    | some v =>
      obtain ⟨h1, h2, h3, h4⟩ := hv n v hvn
      show (oneV p.n p.d (p.f - 1) v && true) = true
      rw [Bool.and_true]
      unfold oneV
      rw [h.f, h.bn, h.bd, h2, h3, h1, decide_eq_false (by omega), decide_eq_false (by omega)]
      rfl
  unfold Proofs.Ytliljjlegofmkaa.prmE
  rw [hnb, hr]
  rfl
theorem SfP.prm (h : SfP p q i n X vt all) (hv : VtI i vt) (hn : n < q.n.toNat) (hb : X.testBit n = true) : SfP (prmP p (n : Int) (vt n).toList) q i (n + 1) X vt (all ++ (vt n).toList) := by
  have ht : p.set.testBit (n : Int).toNat = false := by
    rw [Int.toNat_natCast, h.set]; simp
  obtain ⟨e1, e2⟩ := prmP_mu (h.prmE hv hn) ht
  refine ⟨(prmP_q _ _ _).trans h.q, (prmP_f _ _ _).trans h.f, (prmP_n _ _ _).trans h.bn, (prmP_d _ _ _).trans h.bd, fun j => by rw [prmP_sl]; exact h.sl j, fun j => ?_, ?_, fun j hj hx v hjv => ?_, fun v hm => ?_⟩
  · rw [e2, Nat.testBit_or, h.set, Int.toNat_natCast, Nat.testBit_two_pow]
    by_cases hj : j = n
    · subst hj; simp [hb]
    · rw [show decide (j < n) = decide (j < n + 1) by rw [decide_eq_decide]; omega, show decide (n = j) = false from decide_eq_false (fun e : n = j => hj e.symm), Bool.or_false]
  · rw [e1]
    have hs : selV 1 (vt n).toList = (vt n).toList := by
      cases hvn : vt n with
      | none => rfl
      | some v => unfold selV; simp [(hv n v hvn).1]
    have := h.mu.fold (x := (n : Int)) (vt n).toList
    rwa [hs] at this
  · by_cases hjn : j = n
    · subst hjn; rw [hjv]; simp
    · exact List.mem_append_left _ (h.inn j (by omega) hx v hjv)
  · rcases List.mem_append.1 hm with hm | hm
    · exact h.out v hm
    · exact ⟨n, by cases hvn : vt n with
        | none => rw [hvn] at hm; simp at hm
        | some u => rw [hvn] at hm; simp at hm; rw [hm]⟩
/-- What is proposed. -/
theorem SfP.pro (h : SfP p q i n X vt all) (hw : Wf p) (hr : readyB p = true) (own : List UInt8) (ho : own.length ≤ 100) :
    proE p 1 own = 0 ∧ ∃ V : Vt, proV p 1 own = V ∧ V.s = 1 ∧ V.n = ballN i ∧ V.d = ballD i ∧ V.v = proVal p 1 own ∧ V.v.length ≤ 100 ∧ proP p 1 own = { p with sl := upd p.sl 1 (V, 0) } := by
  have hl : (proVal p 1 own).length ≤ 100 := by
    unfold proVal muB
    cases hm : p.mu 1 with
    | none => simpa using ho
    | some y => obtain ⟨v, nd⟩ := y; exact (hw.mu 1 v nd hm).2.2
  have e : proE p 1 own = 0 := by
    unfold proE
    rw [hr, h.f, if_pos rfl, if_neg (by omega), h.sl 1]
    simp only
    rw [if_neg (by omega)]
  refine ⟨e, _, rfl, ?_⟩
  unfold proV proP
  rw [if_pos e, if_pos e, h.sl 1]
  exact ⟨rfl, h.bn, h.bd, rfl, hl, rfl⟩
theorem SfP.same (h : SfP p q i q.n.toNat X vt all) (hr : readyB p = true) {won : Bool} {first : List UInt8} (hs : SafeI i q vt won first) (hw : won = true) (own : List UInt8) : proVal p 1 own = first := by
  obtain ⟨kn, kd, Y, h0, h1, h2, h3⟩ := hs hw
  unfold readyB at hr
  rw [h.q] at hr
  obtain ⟨j, hj, ha, hb⟩ := meets hr h1
  rw [h.set j, Bool.and_eq_true] at ha
  obtain ⟨v, hv, hk⟩ := h2 j hj hb
  have hin := h.inn j hj ha.2 v hv
  rcases h.mu with ⟨_, rfl⟩ | ⟨m, nd, hm, hma, hmx⟩
  · simp at hin
  · obtain ⟨j', hj'⟩ := h.out m hma
    have := h3 j' m hj' (less_tr (hmx v hin) hk)
    unfold proVal muB
    rw [hm]
    exact this
end

/-- While nodes 0 .. n - 1 have accepted. -/
def accVt (vt : Nat → Option Vt) (V : Vt) (n X : Nat) : Nat → Option Vt := fun j => if j < n ∧ X.testBit j = true then some V else vt j
structure SfA (p : Ps) (q : Qu) (n X : Nat) (V : Vt) : Prop where
  q : p.q = q
  sl : ∃ Y, p.sl 1 = some (V, Y) ∧ ∀ j, Y.testBit j = (decide (j < n) && X.testBit j)
section
variable {p : Ps} {q : Qu} {i n X : Nat} {vt : Nat → Option Vt} {V : Vt}
theorem accVt_skip (hb : X.testBit n = false) : accVt vt V (n + 1) X = accVt vt V n X := by
  funext j
  unfold accVt
  by_cases hj : j = n
  · subst hj; simp [hb]
  · have : (j < n + 1 ∧ X.testBit j = true) ↔ (j < n ∧ X.testBit j = true) := by constructor <;> (rintro ⟨h1, h2⟩; exact ⟨by omega, h2⟩)
    simp only [this]
theorem accVt_put (hb : X.testBit n = true) : accVt vt V (n + 1) X = upd (accVt vt V n X) n V := by
  funext j
  unfold accVt upd
  by_cases hj : j = n
  · subst hj; simp [hb]
  · have : (j < n + 1 ∧ X.testBit j = true) ↔ (j < n ∧ X.testBit j = true) := by constructor <;> (rintro ⟨h1, h2⟩; exact ⟨by omega, h2⟩)
    simp only [this, if_neg hj]
theorem SfA.skip (h : SfA p q n X V) (hb : X.testBit n = false) : SfA p q (n + 1) X V := by
  obtain ⟨Y, h1, h2⟩ := h.sl
  refine ⟨h.q, Y, h1, fun j => ?_⟩
  rw [h2]
  by_cases hj : j = n
  · subst hj; simp [hb]
  · rw [show decide (j < n) = decide (j < n + 1) by rw [decide_eq_decide]; omega]
theorem SfA.accE (h : SfA p q n X V) (hn : n < q.n.toNat) : accE p (n : Int) 1 = 0 := by
  obtain ⟨Y, h1, h2⟩ := h.sl
  unfold Proofs.Ytliljjlegofmkaa.accE
  rw [if_pos (by unfold nodeB; rw [h.q, decide_eq_true_eq]; omega), h1]
  rfl
theorem SfA.acc (h : SfA p q n X V) (hn : n < q.n.toNat) (hb : X.testBit n = true) : SfA (accP p (n : Int) 1) q (n + 1) X V := by
  obtain ⟨Y, h1, h2⟩ := h.sl
  have e : accP p (n : Int) 1 = { p with sl := upd p.sl 1 (V, Y ||| 2 ^ n) } := by
    unfold accP
    rw [if_pos (by unfold nodeB; rw [h.q, decide_eq_true_eq]; omega), h1]
    rfl
  rw [e]
  refine ⟨h.q, Y ||| 2 ^ n, by simp [upd], fun j => ?_⟩
  rw [Nat.testBit_or, h2, Nat.testBit_two_pow]
  by_cases hj : j = n
  · subst hj; simp [hb]
  · rw [show decide (j < n) = decide (j < n + 1) by rw [decide_eq_decide]; omega, show decide (n = j) = false from decide_eq_false (fun e : n = j => hj e.symm), Bool.or_false]
theorem SfA.ch (h : SfA p q q.n.toNat X V) : chB p 1 = if isQ q true X.testBit then some V.v else none := by
  obtain ⟨Y, h1, h2⟩ := h.sl
  unfold chB
  rw [h1, h.q]
  show (if isQ q true Y.testBit = true then some V.v else none) = _
  rw [isQ_congr (p := Y.testBit) (p' := X.testBit) (fun j hj => by rw [h2, decide_eq_true hj, Bool.true_and])]
/-- Behind a round in which V was accepted. -/
theorem SafeI.vti (h : VtI i vt) (hV : V.s = 1 ∧ V.n = ballN i ∧ V.d = ballD i ∧ V.v.length ≤ 100) : VtI (i + 1) (accVt vt V n X) := by
  intro j v hv
  unfold accVt at hv
  split at hv
  · injection hv with hv
    subst hv
    obtain ⟨h1, h2, h3, h4⟩ := hV
    exact ⟨h1, by rw [h2, h3]; exact ball_right i, by rw [h2, h3]; exact ball_next i, h4⟩
  · exact h.up j v hv
theorem SafeI.acc {won : Bool} {first : List UInt8} (h : SafeI i q vt won first) (hV : V.n = ballN i ∧ V.d = ballD i) (hs : won = true → V.v = first) : SafeI (i + 1) q (accVt vt V n X) won first := by
  intro hw
  obtain ⟨kn, kd, Y, h0, h1, h2, h3⟩ := h hw
  by_cases hk : lessB V.n V.d kn kd = false
  · refine ⟨kn, kd, Y, ball_up h0, h1, fun j hj hy => ?_, fun j v hv hl => ?_⟩
    · unfold accVt
      split
      · exact ⟨V, rfl, hk⟩
      · exact h2 j hj hy
    · unfold accVt at hv
      split at hv
      · injection hv with hv
        subst hv
        exact hs hw
      · exact h3 j v hv hl
  · exfalso
    apply hk
    rw [hV.1, hV.2]
    exact less_of h0
theorem SafeI.up {won : Bool} {first : List UInt8} (h : SafeI i q vt won first) : SafeI (i + 1) q vt won first := fun hw => by
  obtain ⟨kn, kd, Y, h0, h⟩ := h hw
  exact ⟨kn, kd, Y, ball_up h0, h⟩
theorem SafeI.won (hi : VtI i vt) (hV : V.n = ballN i ∧ V.d = ballD i) (hq : isQ q true X.testBit = true) : SafeI (i + 1) q (accVt vt V q.n.toNat X) true V.v := by
  intro _
  refine ⟨ballN i, ballD i, X.testBit, ball_next i, hq, fun j hj hx => ?_, fun j v hv hl => ?_⟩
  · refine ⟨V, ?_, ?_⟩
    · unfold accVt; rw [if_pos ⟨hj, hx⟩]
    · rw [hV.1, hV.2]; exact less_irr _ _
  · unfold accVt at hv
    split at hv
    · injection hv with hv
      rw [hv]
    · have := (hi j v hv).2.2.1
      rw [hl] at this
      cases this
end
end Go.Proofs.Ytliljjlegofmkaa
