/- What has to be proposed, plainly; a row of votes of a law's own. -/
import Derived.Test.YtliljjlegofmkaaPSm
namespace Go.Proofs.Ytliljjlegofmkaa
open Go.RowKit

/-! ### plain -/
theorem lessB_iff {a : Nat} {b : Int} {c : Nat} {d : Int} : lessB a b c d = true ↔ a < c ∨ (a = c ∧ b < d) := by unfold lessB; simp
theorem lessB_no {a : Nat} {b : Int} {c : Nat} {d : Int} : lessB a b c d = false ↔ c < a ∨ (a = c ∧ d ≤ b) := by
  rw [Bool.eq_false_iff, Ne, lessB_iff]; omega
def selV (k : Nat) (l : List Vt) : List Vt := l.filter fun v => decide (v.s = k)
def MuAll (m : Option (Vt × Int)) (all : List Vt) : Prop :=
  (m = none ∧ all = []) ∨ ∃ v nd, m = some (v, nd) ∧ v ∈ all ∧ ∀ a ∈ all, lessB v.n v.d a.n a.d = false
theorem MuAll.put {mu : Nat → Option (Vt × Int)} {all : List Vt} {x : Int} {v : Vt} {k : Nat} (h : MuAll (mu k) all) : MuAll (putM x mu v k) (if v.s = k then all ++ [v] else all) := by
  by_cases hk : v.s = k
  · subst hk
    rw [if_pos rfl]
    unfold putM
    rcases h with ⟨h1, rfl⟩ | ⟨m, nd, h1, h2, h3⟩
    · rw [h1]
      simp only [upd, if_true]
      exact .inr ⟨v, x, rfl, by simp, fun a ha => by
        have : a = v := by simpa using ha
        subst this
        rw [lessB_no]; omega⟩
    · rw [h1]
      simp only
      split
      · rename_i hc
        rw [Bool.or_eq_true, Bool.and_eq_true, Bool.and_eq_true, lessB_iff, decide_eq_true_eq, decide_eq_true_eq] at hc
        refine .inr ⟨m, nd, h1, by simp [h2], fun a ha => ?_⟩
        rcases List.mem_append.1 ha with ha | ha
        · exact h3 a ha
        · have : a = v := by simpa using ha
          subst this
          rw [lessB_no]; omega
      · rename_i hc
        have hc' : lessB v.n v.d m.n m.d = false := by
          cases h : lessB v.n v.d m.n m.d with
          | false => rfl
          | true => rw [h] at hc; simp at hc
        rw [lessB_no] at hc'
        simp only [upd, if_true]
        refine .inr ⟨v, x, rfl, by simp, fun a ha => ?_⟩
        rcases List.mem_append.1 ha with ha | ha
        · have := h3 a ha
          rw [lessB_no] at this ⊢
          omega
        · have : a = v := by simpa using ha
          subst this
          rw [lessB_no]; omega
  · rw [if_neg hk]
    have hu : upd mu v.s (v, x) k = mu k := by simp only [upd]; rw [if_neg (fun e => hk e.symm)]
    have : putM x mu v k = mu k := by
      unfold putM
      cases hm : mu v.s with
      | none => exact hu
      | some y =>
        obtain ⟨m, nd⟩ := y
        simp only
        by_cases hc : (lessB v.n v.d m.n m.d || decide (v.n = m.n) && decide (v.d = m.d) && decide (nd < x)) = true
        · rw [if_pos hc]
        · rw [if_neg hc]; exact hu
    rw [this]; exact h
theorem MuAll.fold {x : Int} {k : Nat} : ∀ (l : List Vt) {mu : Nat → Option (Vt × Int)} {all : List Vt}, MuAll (mu k) all → MuAll (l.foldl (putM x) mu k) (all ++ selV k l)
  | [], mu, all, h => by simpa [selV] using h
  | v :: l, mu, all, h => by
    have h1 := MuAll.fold (x := x) (k := k) l (MuAll.put (x := x) (v := v) h)
    rw [List.foldl_cons]
    by_cases hk : v.s = k
    · rw [if_pos hk] at h1
      rw [show selV k (v :: l) = v :: selV k l by unfold selV; rw [List.filter_cons, if_pos (by simpa using hk)]]
      rwa [List.append_assoc] at h1
    · rw [if_neg hk] at h1
      rw [show selV k (v :: l) = selV k l by unfold selV; rw [List.filter_cons, if_neg (by simpa using hk)]]
      exact h1
def bestB (v : List UInt8) (all : List Vt) (a : Vt) : Bool := decide (a.v = v) && all.all fun b => !lessB a.n a.d b.n b.d
theorem MuAll.found {v : Vt} {nd : Int} {all : List Vt} (h : MuAll (some (v, nd)) all) : all.any (bestB v.v all) = true := by
  rcases h with ⟨h, _⟩ | ⟨v', nd', h, h2, h3⟩
  · cases h
  · injection h with h
    injection h with h _
    subst h
    rw [List.any_eq_true]
    refine ⟨v, h2, ?_⟩
    unfold bestB
    rw [Bool.and_eq_true, decide_eq_true_eq, List.all_eq_true]
    exact ⟨rfl, fun a ha => by rw [h3 a ha]; rfl⟩
theorem MuAll.len {m : Option (Vt × Int)} {all : List Vt} (h : MuAll m all) : m.isSome = decide (0 < all.length) := by
  rcases h with ⟨rfl, rfl⟩ | ⟨v, nd, rfl, h2, _⟩
  · rfl
  · have := List.length_pos_of_mem h2
    simp [this]
theorem prmP_mu {p : Ps} {x : Int} {l : List Vt} (h : prmE p x l = 0) (ht : p.set.testBit x.toNat = false) : (prmP p x l).mu = l.foldl (putM x) p.mu ∧ (prmP p x l).set = p.set ||| 2 ^ x.toNat := by
  unfold prmP; rw [if_pos ⟨h, ht⟩]; exact ⟨rfl, rfl⟩
theorem prmP_no {p : Ps} {x : Int} {l : List Vt} (h : ¬ prmE p x l = 0 ∨ p.set.testBit x.toNat = true) : prmP p x l = p := by
  unfold prmP; rw [if_neg]
  rintro ⟨h1, h2⟩
  rcases h with h | h
  · exact h h1
  · rw [h] at h2; cases h2
theorem prmE_node {p : Ps} {x : Int} {l : List Vt} (h : prmE p x l = 0) : 0 ≤ x ∧ x < p.q.n := by
  unfold prmE at h
  cases hb : nodeB p x with
  | true => simpa [nodeB] using hb
  | false => rw [hb] at h; simp at h

/-! ### the twelve marks -/
def tolds (S : Nat) : Array Value := ((List.range 12).map fun i => Value.bool (S.testBit i)).toArray
theorem tolds_get (S i : Nat) (hi : i < 12) : (tolds S)[i]? = some (.bool (S.testBit i)) := by
  unfold tolds
  rw [List.getElem?_toArray, List.getElem?_map, List.getElem?_range hi]
  rfl
theorem tolds_size (S : Nat) : (tolds S).size = 12 := by simp [tolds]
theorem tolds_set (S i : Nat) (_hi : i < 12) : (tolds S).setIfInBounds i (.bool true) = tolds (S ||| 2 ^ i) := by
  apply Array.ext_getElem?
  intro j
  rw [Array.getElem?_setIfInBounds]
  by_cases hj : j < 12
  · rw [tolds_get _ j hj, tolds_get _ j hj, tolds_size, Nat.testBit_or, Nat.testBit_two_pow]
    by_cases hij : i = j
    · subst hij; simp; omega
    · simp [hij]
  · have h1 : ∀ S, (tolds S)[j]? = none := fun S => Array.getElem?_eq_none (by rw [tolds_size]; omega)
    rw [h1, h1, if_neg (by omega)]

/-! ### a row of votes of the law's own, their values what came in -/
def flatV : List Vt → List Value → List Value
  | p :: ps, s :: ss => .int .u64 p.s :: .int .u64 p.n :: .int .i64 p.d :: s :: flatV ps ss
  | _, _ => []
theorem flatV_get : ∀ (ps : List Vt) (ss : List Value) (j : Nat) (p : Vt) (s : Value), ps[j]? = some p → ss[j]? = some s →
    (flatV ps ss)[j * 4]? = some (.int .u64 p.s) ∧ (flatV ps ss)[j * 4 + 1]? = some (.int .u64 p.n) ∧ (flatV ps ss)[j * 4 + 2]? = some (.int .i64 p.d) ∧ (flatV ps ss)[j * 4 + 3]? = some s
  | [], _, j, p, s, h, _ => by simp at h
  | q :: ps, [], j, p, s, _, h => by simp at h
  | q :: ps, t :: ss, 0, p, s, h, h' => by
    simp at h h'
    subst h h'
    exact ⟨rfl, rfl, rfl, rfl⟩
  | q :: ps, t :: ss, j + 1, p, s, h, h' => by
    have := flatV_get ps ss j p s (by simpa using h) (by simpa using h')
    simp only [flatV]
    rw [show (j + 1) * 4 = j * 4 + 1 + 1 + 1 + 1 by omega, show j * 4 + 1 + 1 + 1 + 1 + 1 = (j * 4 + 1) + 1 + 1 + 1 + 1 by omega, show j * 4 + 1 + 1 + 1 + 1 + 2 = (j * 4 + 2) + 1 + 1 + 1 + 1 by omega, show j * 4 + 1 + 1 + 1 + 1 + 3 = (j * 4 + 3) + 1 + 1 + 1 + 1 by omega]
    simpa only [List.getElem?_cons_succ] using this
theorem flatV_append : ∀ (ps : List Vt) (ss : List Value) (qs : List Vt) (ts : List Value), ss.length = ps.length → flatV (ps ++ qs) (ss ++ ts) = flatV ps ss ++ flatV qs ts
  | [], [], qs, ts, _ => by simp [flatV]
  | [], t :: ss, qs, ts, h => by simp at h
  | q :: ps, [], qs, ts, h => by simp at h
  | q :: ps, t :: ss, qs, ts, h => by
    simp only [List.cons_append, flatV]
    rw [flatV_append ps ss qs ts (by simpa using h)]
structure SentV (W w : World) (v : Value) (ps : List Vt) (vs : List Value) : Prop where
  row : w.ownsRow W.heap.size 45 4 v ps.length (flatV ps vs)
  len : vs.length = ps.length
  byt : ∀ (i : Nat) (p : Vt) (u : Value), ps[i]? = some p → vs[i]? = some u → Byt W u p.v
section
variable {W w w' : World} {v v' : Value} {ps : List Vt} {vs : List Value} {X : Nat → Prop}
theorem SentV.fr (h : SentV W w v ps vs) (hf : Fr X w w') (hx : ∀ k, v.ownBlock = some k → ¬ X k) : SentV W w' v ps vs := ⟨own_fr h.row hf hx, h.len, h.byt⟩
theorem SentV.form (h : SentV W w v ps vs) : ∃ a c, v = .slice a ps.length c := by
  rcases own_form h.row with ⟨rfl, hL, _⟩ | ⟨g, cap, cur, rfl, _⟩
  · exact ⟨none, 0, by rw [hL]⟩
  · exact ⟨_, _, rfl⟩
theorem SentV.at (h : SentV W w v ps vs) {j : Nat} {p : Vt} (hp : ps[j]? = some p) :
    ∃ g lc u, v = .slice (some ⟨g, 0, none⟩) ps.length lc ∧ Byt W u p.v ∧ w.cell? ⟨g, j * 4, none⟩ = some (.int .u64 p.s) ∧ w.cell? ⟨g, j * 4 + 1, none⟩ = some (.int .u64 p.n) ∧ w.cell? ⟨g, j * 4 + 2, none⟩ = some (.int .i64 p.d) ∧ w.cell? ⟨g, j * 4 + 3, none⟩ = some u := by
  have hj := (List.getElem?_eq_some_iff.1 hp).1
  have hjv : j < vs.length := by rw [h.len]; exact hj
  obtain ⟨e1, e2, e3, e4⟩ := flatV_get ps vs j p vs[j] hp (List.getElem?_eq_getElem hjv)
  have hrow := h.row
  rcases own_form hrow with ⟨rfl, hL, _⟩ | ⟨g, cap, cur, rfl, _⟩
  · omega
  · exact ⟨g, cap, vs[j], rfl, h.byt j p _ hp (List.getElem?_eq_getElem hjv), own_cell (own_base hrow) _ e1, own_cell (own_base hrow) _ e2, own_cell (own_base hrow) _ e3, own_cell (own_base hrow) _ e4⟩
theorem SentV.more {p : Vt} {s : Value} (h : SentV W w v ps vs) (hs : Byt W s p.v) (ha : Appended W.heap.size 45 4 w v ps.length 1 (flatV ps vs) [.int .u64 p.s, .int .u64 p.n, .int .i64 p.d, s] v' w') : SentV W w' v' (ps ++ [p]) (vs ++ [s]) := by
  refine ⟨?_, by simp [h.len], fun i q u hq hu => ?_⟩
  · rw [List.length_append, List.length_singleton, flatV_append _ _ _ _ h.len]
    exact ha.1
  · by_cases hi : i < ps.length
    · rw [List.getElem?_append_left hi] at hq
      rw [List.getElem?_append_left (by rw [h.len]; exact hi)] at hu
      exact h.byt i q u hq hu
    · have hi' : i = ps.length := by
        have := (List.getElem?_eq_some_iff.1 hq).1
        simp at this; omega
      subst hi'
      rw [List.getElem?_append_right (Nat.le_refl _)] at hq
      rw [List.getElem?_append_right (by rw [h.len]; exact Nat.le_refl _), h.len] at hu
      simp at hq hu
      subst hq hu
      exact hs
theorem SentV.nil (W w : World) : SentV W w (.slice none 0 0) [] [] := ⟨World.ownsRow_nil _ _ _ _, rfl, fun i p u h => by simp at h⟩
theorem selV_take_yes {k : Nat} {l : List Vt} {j : Nat} {v : Vt} (hv : l[j]? = some v) (hs : v.s = k) : selV k (l.take (j + 1)) = selV k (l.take j) ++ [v] := by
  unfold selV
  rw [List.take_add_one, List.filter_append, hv]
  simp [hs]
theorem selV_take_no {k : Nat} {l : List Vt} {j : Nat} {v : Vt} (hv : l[j]? = some v) (hs : ¬ v.s = k) : selV k (l.take (j + 1)) = selV k (l.take j) := by
  unfold selV
  rw [List.take_add_one, List.filter_append, hv]
  simp [hs]
theorem selV_len (k : Nat) (l : List Vt) (j : Nat) : (selV k (l.take j)).length ≤ j := by
  unfold selV
  exact Nat.le_trans (List.length_filter_le _ _) (List.length_take_le _ _)
end
end Go.Proofs.Ytliljjlegofmkaa
