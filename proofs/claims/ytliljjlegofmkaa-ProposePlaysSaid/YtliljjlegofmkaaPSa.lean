/- ProposeSame. -/
import Derived.Test.YtliljjlegofmkaaPW
import Derived.Deep.RegionHeld3
namespace Go.Proofs.Ytliljjlegofmkaa
open Go.RowKit

/-! ### plain -/
theorem q3_isq {sec : Bool} {a b : Nat} (hab : a ≠ b) (ha : a < 3) (hb : b < 3) {p : Nat → Bool} (h1 : p a = true) (h2 : p b = true) : isQ Q3 sec p = true := by
  have hm : isQ Q3 sec (2 ^ a ||| 2 ^ b).testBit = true := by
    have h : ∀ (a b : Fin 3) (s : Bool), a ≠ b → isQ Q3 s (2 ^ a.val ||| 2 ^ b.val).testBit = true := by decide +kernel
    exact h ⟨a, ha⟩ ⟨b, hb⟩ sec (fun e => hab (by injection e))
  refine isQ_mono (fun i _ hi => ?_) hm
  rw [Nat.testBit_or, Nat.testBit_two_pow, Nat.testBit_two_pow, Bool.or_eq_true, decide_eq_true_eq, decide_eq_true_eq] at hi
  rcases hi with rfl | rfl
  · exact h1
  · exact h2
theorem prmP_bit {p : Ps} {x : Int} {l : List Vt} {i : Nat} (h : p.set.testBit i = true) : (prmP p x l).set.testBit i = true := by
  unfold prmP; split
  · show (p.set ||| _).testBit i = true
    rw [Nat.testBit_or, h]; rfl
  · exact h
theorem prmP_own {p : Ps} {x : Nat} (hn : nodeB p x = true) : (prmP p x []).set.testBit x = true := by
  have e : prmE p x [] = 0 := by unfold prmE; rw [hn]; rfl
  unfold prmP
  split
  · show (p.set ||| 2 ^ x).testBit x = true
    rw [Nat.testBit_or, Nat.testBit_two_pow]
    simp
  · rename_i h
    cases ht : p.set.testBit x with
    | true => rfl
    | false => exact absurd ⟨e, ht⟩ h
theorem accP_set (p : Ps) (x : Int) (k : Nat) : (accP p x k).set = p.set := by unfold accP; split <;> (try split) <;> rfl
theorem proP_set (p : Ps) (k : Nat) (own : List UInt8) : (proP p k own).set = p.set := by unfold proP; split <;> (try split) <;> rfl

/-- Nothing is proposed yet. -/
structure S0 (p : Ps) : Prop where
  q : p.q = Q3
  f : p.f = 1
  sl : ∀ k, p.sl k = none
theorem S0.new (n : Nat) (d : Int) : S0 (newP Q3 n d 1) := ⟨rfl, rfl, fun _ => rfl⟩
theorem S0.prm {p : Ps} (h : S0 p) (x : Int) (l : List Vt) : S0 (prmP p x l) := ⟨(prmP_q p x l).trans h.q, (prmP_f p x l).trans h.f, fun k => by rw [prmP_sl]; exact h.sl k⟩
theorem S0.node {p : Ps} (h : S0 p) (x : Nat) (hx : x < 3) : nodeB p x = true := by
  unfold nodeB
  rw [h.q]
  exact decide_eq_true ⟨by omega, by show (x : Int) < 3; omega⟩
/-- A value has been proposed in the slot k, and a quorum has accepted it. -/
structure SmP (p : Ps) (k : Nat) (V : Vt) : Prop where
  q : p.q = Q3
  f : p.f = 1
  s0 : p.set.testBit 0 = true
  s1 : p.set.testBit 1 = true
  sl : ∃ X, p.sl k = some (V, X) ∧ X.testBit 0 = true ∧ X.testBit 2 = true
section
variable {p : Ps} {k : Nat} {V : Vt}
theorem rd_of (hq : p.q = Q3) (h0 : p.set.testBit 0 = true) (h1 : p.set.testBit 1 = true) : readyB p = true := by
  unfold readyB; rw [hq]; exact q3_isq (by decide) (by decide) (by decide) h0 h1
theorem SmP.prm (h : SmP p k V) (x : Int) (l : List Vt) : SmP (prmP p x l) k V :=
  ⟨(prmP_q p x l).trans h.q, (prmP_f p x l).trans h.f, prmP_bit h.s0, prmP_bit h.s1, by rw [prmP_sl]; exact h.sl⟩
theorem SmP.acc (h : SmP p k V) (x : Int) (j : Nat) : SmP (accP p x j) k V := by
  obtain ⟨X, h1, h2, h3⟩ := h.sl
  obtain ⟨Y, h4, h5⟩ := accP_sl (x := x) (k := j) h1
  exact ⟨(accP_q p x j).trans h.q, (accP_f p x j).trans h.f, by rw [accP_set]; exact h.s0, by rw [accP_set]; exact h.s1, Y, h4, h5 _ h2, h5 _ h3⟩
theorem SmP.pro (h : SmP p k V) (hk : 1 ≤ k) (own : List UInt8) : proE p k own = 0 ∧ proV p k own = V ∧ proP p k own = p := by
  obtain ⟨X, h1, -⟩ := h.sl
  have e : proE p k own = 0 := by
    unfold proE
    rw [rd_of h.q h.s0 h.s1, h.f, if_pos rfl, if_neg (by omega), h1]
  refine ⟨e, ?_, ?_⟩
  · unfold proV; rw [if_pos e, h1]
  · unfold proP; rw [if_pos e, h1]
theorem SmP.ch (h : SmP p k V) : chB p k = some V.v := by
  obtain ⟨X, h1, h2, h3⟩ := h.sl
  unfold chB
  rw [h1, h.q]
  show (if isQ Q3 true X.testBit = true then some V.v else none) = _
  rw [q3_isq (by decide) (by decide) (by decide) h2 h3]
  rfl
/-- The first proposal. -/
theorem S0.pro (h : S0 p) (hw : Wf p) (hk : 1 ≤ k) (h0 : p.set.testBit 0 = true) (h1 : p.set.testBit 1 = true) (own : List UInt8) (ho : own.length ≤ 100) :
    proE p k own = 0 ∧ ∃ V, proV p k own = V ∧ V.s = k ∧ V.n = p.n ∧ V.d = p.d ∧ V.v.length ≤ 100 ∧ proP p k own = { p with sl := upd p.sl k (V, 0) } := by
  have hl : (proVal p k own).length ≤ 100 := by
    unfold proVal muB
    cases hm : p.mu k with
    | none => simpa using ho
    | some y => obtain ⟨v, nd⟩ := y; exact (hw.mu k v nd hm).2.2
  have e : proE p k own = 0 := by
    unfold proE
    rw [rd_of h.q h0 h1, h.f, if_pos rfl, if_neg (by omega), h.sl k]
    simp only
    rw [if_neg (by omega)]
  refine ⟨e, _, rfl, ?_⟩
  unfold proV proP
  rw [if_pos e, if_pos e, h.sl k]
  exact ⟨rfl, rfl, rfl, hl, rfl⟩
theorem acc_at {x : Nat} {z : Int} (hz : z = (x : Int)) (hq : p.q = Q3) (hx : x < 3) {X : Nat} (h : p.sl k = some (V, X)) : accE p z k = 0 ∧ accP p z k = { p with sl := upd p.sl k (V, X ||| 2 ^ x) } := by
  subst hz
  have hn : nodeB p x = true := by
    unfold nodeB
    rw [hq]
    exact decide_eq_true ⟨by omega, by show (x : Int) < 3; omega⟩
  unfold accE accP
  rw [hn, h]
  exact ⟨rfl, rfl⟩
/-- .. and two that accept. -/
theorem S0.both (h : S0 p) (h0 : p.set.testBit 0 = true) (h1 : p.set.testBit 1 = true) {p1 : Ps} (hp : p1 = { p with sl := upd p.sl k (V, 0) }) :
    accE p1 0 k = 0 ∧ accE (accP p1 0 k) 2 k = 0 ∧ SmP (accP (accP p1 0 k) 2 k) k V := by
  have a1 : p1.sl k = some (V, 0) := by rw [hp]; simp [upd]
  have q1 : p1.q = Q3 := by rw [hp]; exact h.q
  obtain ⟨e1, e2⟩ := acc_at (x := 0) (z := 0) rfl q1 (by decide) a1
  have a2 : (accP p1 0 k).sl k = some (V, 0 ||| 2 ^ 0) := by rw [e2]; simp [upd]
  obtain ⟨e3, e4⟩ := acc_at (x := 2) (z := 2) rfl ((accP_q p1 0 k).trans q1) (by decide) a2
  refine ⟨e1, e3, ?_⟩
  rw [e4]
  refine ⟨(accP_q p1 0 k).trans q1, ?_, ?_, ?_, _, by simp [upd]; rfl, by decide, by decide⟩
  · show (accP p1 0 k).f = 1; rw [accP_f, hp]; exact h.f
  · show (accP p1 0 k).set.testBit 0 = true; rw [accP_set, hp]; exact h0
  · show (accP p1 0 k).set.testBit 1 = true; rw [accP_set, hp]; exact h1
end
end Go.Proofs.Ytliljjlegofmkaa
