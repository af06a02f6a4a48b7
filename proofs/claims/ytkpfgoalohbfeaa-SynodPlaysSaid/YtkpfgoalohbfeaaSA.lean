/- The room, plain: nodes, letters, and what each call does. -/
import Derived.Test.YtkpfgoalohbfeaaBe
namespace Go.Proofs.Ytkpfgoalohbfeaa
open Go.RowKit

/-- A letter. -/
structure Lt where
  k : Int
  fr : Nat
  dst : Nat
  n : Nat
  d : Int
  vs : List Vt
/-- A node. -/
structure Nd where
  pn : Nat
  pd : Int
  vt : Vt
  seen : Nat
  p : Option Ps
  bn : Nat
  bd : Int
  val : List UInt8
  ln : List UInt8
  kn : Bool
/-- A room. -/
structure Sy where
  q : Qu
  nd : Nat → Nd
  l : List Lt
def Sy.N (st : Sy) : Nat := st.q.n.toNat
def Sy.upd (st : Sy) (i : Nat) (x : Nd) : Sy := { st with nd := fun j => if j = i then x else st.nd j }
def sendS (st : Sy) (m : Lt) : Sy := if st.l.length < 200 then { st with l := st.l ++ [m] } else st
def allS (st : Sy) (m : Lt) : Nat → Sy
  | 0 => st
  | k + 1 => sendS (allS st m k) { m with dst := k }
def lastN : Nat := 4611686018427387904
def startE (st : Sy) (a : Int) (v : List UInt8) : Int :=
  if 0 ≤ a ∧ a < st.q.n ∧ v.length ≤ 100 then (if lastN ≤ (st.nd a.toNat).seen then 5 else 0) else 2
def startN (st : Sy) (a : Nat) (v : List UInt8) : Nd :=
  { st.nd a with seen := (st.nd a).seen + 1, bn := (st.nd a).seen + 1, bd := (a : Int), p := some (newP st.q ((st.nd a).seen + 1) (a : Int) 1), val := v }
def startL (st : Sy) (a : Nat) : Lt := ⟨1, a, 0, (st.nd a).seen + 1, (a : Int), []⟩
def startS (st : Sy) (a : Int) (v : List UInt8) : Sy :=
  if startE st a v = 0 then allS (st.upd a.toNat (startN st a.toNat v)) (startL st a.toNat) st.N else st
def startB (st : Sy) (a : Int) (v : List UInt8) : Nat × Int := if startE st a v = 0 then ((st.nd a.toNat).seen + 1, a) else (0, 0)
/-- A ballot was met. -/
def seesN (x : Nd) (m : Lt) : Nd := { x with seen := max x.seen m.n }
def bindN (x : Nd) (m : Lt) : Nd := { x with seen := max x.seen m.n, pn := m.n, pd := m.d }
def backV (x : Nd) : List Vt := if 0 < x.vt.s then [x.vt] else []
def prepS (st : Sy) (m : Lt) : Sy :=
  if lessB m.n m.d (st.nd m.dst).pn (st.nd m.dst).pd then st.upd m.dst (seesN (st.nd m.dst) m)
  else sendS (st.upd m.dst (bindN (st.nd m.dst) m)) ⟨2, m.dst, m.fr, m.n, m.d, backV (st.nd m.dst)⟩
def zeroV : Vt := ⟨0, 0, 0, []⟩
def voteN (x : Nd) (m : Lt) : Nd := { x with seen := max x.seen m.n, pn := m.n, pd := m.d, vt := m.vs.headD zeroV }
def acptS (st : Sy) (m : Lt) : Sy :=
  if lessB m.n m.d (st.nd m.dst).pn (st.nd m.dst).pd then st.upd m.dst (seesN (st.nd m.dst) m)
  else sendS (st.upd m.dst (voteN (st.nd m.dst) m)) ⟨4, m.dst, m.fr, m.n, m.d, []⟩
def sameB (x : Nd) (m : Lt) : Bool := decide (x.bn = m.n ∧ x.bd = m.d)
def promS (st : Sy) (m : Lt) : Sy :=
  match (st.nd m.dst).p with
  | none => st
  | some p =>
    if sameB (st.nd m.dst) m = true ∧ readyB p = false then
      if readyB (prmP p m.fr m.vs) = true then
        allS (st.upd m.dst { st.nd m.dst with p := some (proP (prmP p m.fr m.vs) 1 (st.nd m.dst).val) })
          ⟨3, m.dst, 0, (st.nd m.dst).bn, (st.nd m.dst).bd, [proV (prmP p m.fr m.vs) 1 (st.nd m.dst).val]⟩ st.N
      else st.upd m.dst { st.nd m.dst with p := some (prmP p m.fr m.vs) }
    else st
def acdS (st : Sy) (m : Lt) : Sy :=
  match (st.nd m.dst).p with
  | none => st
  | some p =>
    if sameB (st.nd m.dst) m = true then
      match chB (accP p m.fr 1) 1 with
      | some v => st.upd m.dst { st.nd m.dst with p := some (accP p m.fr 1), ln := v, kn := true }
      | none => st.upd m.dst { st.nd m.dst with p := some (accP p m.fr 1) }
    else st
def arrS (st : Sy) (m : Lt) : Sy := if m.k = 1 then prepS st m else if m.k = 2 then promS st m else if m.k = 3 then acptS st m else acdS st m
def Sy.cut (st : Sy) (a : Nat) : Sy := { st with l := st.l.eraseIdx a }
/-- The letter at a place. -/
def Sy.atL (st : Sy) (a : Int) : Option Lt := if 0 ≤ a then st.l[a.toNat]? else none
def takeS (st : Sy) (a : Int) : Sy := match st.atL a with | some m => arrS (st.cut a.toNat) m | none => st
def dropS (st : Sy) (a : Int) : Sy := match st.atL a with | some _ => st.cut a.toNat | none => st
def twicB (st : Sy) (a : Int) : Bool := (st.atL a).isSome && decide (st.l.length < 200)
def twicS (st : Sy) (a : Int) : Sy := match st.atL a with | some m => sendS st m | none => st
def inSy (st : Sy) (a : Int) : Bool := decide (0 ≤ a ∧ a < st.q.n)
def crashN (x : Nd) : Nd := ⟨x.pn, x.pd, x.vt, x.seen, none, 0, 0, [], [], false⟩
def crashS (st : Sy) (a : Int) : Sy := if inSy st a then st.upd a.toNat (crashN (st.nd a.toNat)) else st

/-- What a vote is that goes by letter. -/
structure VWf (v : Vt) : Prop where
  s : v.s ≤ 1
  n : v.n ≤ lastN
  d0 : 0 ≤ v.d
  d1 : v.d < 12
  l : v.v.length ≤ 100
structure LWf (N : Nat) (m : Lt) : Prop where
  fr : m.fr < N
  dst : m.dst < N
  n : m.n ≤ lastN
  d0 : 0 ≤ m.d
  d1 : m.d < 12
  len : m.vs.length ≤ 1
  vs : ∀ v ∈ m.vs, VWf v
  acc : m.k = 3 → m.vs ≠ []
structure NWf (q : Qu) (x : Nd) : Prop where
  pn : x.pn ≤ lastN
  pd0 : 0 ≤ x.pd
  pd1 : x.pd < 12
  vt : VWf x.vt
  seen : x.seen ≤ lastN
  bn : x.bn ≤ lastN
  bd0 : 0 ≤ x.bd
  bd1 : x.bd < 12
  val : x.val.length ≤ 100
  ln : x.ln.length ≤ 100
  p : ∀ p, x.p = some p → p.q = q ∧ p.n = x.bn ∧ p.d = x.bd ∧ p.f = 1
structure SWf (st : Sy) : Prop where
  ok : Ok st.q
  ql : st.q.s.length ≤ 1000
  nd : ∀ i, i < st.N → NWf st.q (st.nd i)
  lt : ∀ m ∈ st.l, LWf st.N m
  len : st.l.length ≤ 200
section
variable {st : Sy}
theorem SWf.n12 (h : SWf st) : 1 ≤ st.N ∧ st.N ≤ 12 ∧ st.q.n = (st.N : Int) := h.ok.n
theorem SWf.send (h : SWf st) {m : Lt} (hm : LWf st.N m) : SWf (sendS st m) := by
  unfold sendS
  split
  · refine ⟨h.ok, h.ql, h.nd, fun x hx => ?_, by simp; omega⟩
    rcases List.mem_append.1 hx with hx | hx
    · exact h.lt x hx
    · have : x = m := by simpa using hx
      rw [this]; exact hm
  · exact h
theorem sendS_q (st : Sy) (m : Lt) : (sendS st m).q = st.q := by unfold sendS; split <;> rfl
theorem sendS_nd (st : Sy) (m : Lt) : (sendS st m).nd = st.nd := by unfold sendS; split <;> rfl
theorem sendS_N (st : Sy) (m : Lt) : (sendS st m).N = st.N := by unfold Sy.N; rw [sendS_q]
theorem allS_q (st : Sy) (m : Lt) : ∀ k, (allS st m k).q = st.q
  | 0 => rfl
  | k + 1 => by unfold allS; rw [sendS_q, allS_q st m k]
theorem allS_nd (st : Sy) (m : Lt) : ∀ k, (allS st m k).nd = st.nd
  | 0 => rfl
  | k + 1 => by unfold allS; rw [sendS_nd, allS_nd st m k]
theorem allS_N (st : Sy) (m : Lt) (k : Nat) : (allS st m k).N = st.N := by unfold Sy.N; rw [allS_q]
theorem SWf.all (h : SWf st) {m : Lt} (hm : ∀ i, i < st.N → LWf st.N { m with dst := i }) : ∀ k, k ≤ st.N → SWf (allS st m k)
  | 0, _ => h
  | k + 1, hk => by
    unfold allS
    exact SWf.send (SWf.all h hm k (by omega)) (by rw [allS_N]; exact hm k (by omega))
theorem SWf.upd (h : SWf st) {i : Nat} {x : Nd} (hx : NWf st.q x) : SWf (st.upd i x) := by
  refine ⟨h.ok, h.ql, fun j hj => ?_, h.lt, h.len⟩
  show NWf st.q (if j = i then x else st.nd j)
  split
  · exact hx
  · exact h.nd j hj
theorem SWf.cut (h : SWf st) (a : Nat) : SWf (st.cut a) := by
  refine ⟨h.ok, h.ql, h.nd, fun m hm => h.lt m (List.mem_of_mem_eraseIdx hm), ?_⟩
  have h1 := List.length_eraseIdx_le st.l a
  have h2 := h.len
  show (st.l.eraseIdx a).length ≤ 200
  omega
theorem SWf.cut_at (h : SWf st) {a : Int} {m : Lt} (hm : st.atL a = some m) : LWf st.N m := by
  unfold Sy.atL at hm
  split at hm
  · exact h.lt m (List.mem_of_getElem? hm)
  · cases hm
theorem zeroV_wf : VWf zeroV := ⟨by decide, by decide, by decide, by decide, by decide⟩
theorem NWf.sees {q : Qu} {x : Nd} {m : Lt} {N : Nat} (h : NWf q x) (hm : LWf N m) : NWf q (seesN x m) :=
  ⟨h.pn, h.pd0, h.pd1, h.vt, by have := h.seen; have := hm.n; show max x.seen m.n ≤ _; omega, h.bn, h.bd0, h.bd1, h.val, h.ln, h.p⟩
theorem NWf.bind {q : Qu} {x : Nd} {m : Lt} {N : Nat} (h : NWf q x) (hm : LWf N m) : NWf q (bindN x m) :=
  ⟨hm.n, hm.d0, hm.d1, h.vt, by have := h.seen; have := hm.n; show max x.seen m.n ≤ _; omega, h.bn, h.bd0, h.bd1, h.val, h.ln, h.p⟩
theorem NWf.vote {q : Qu} {x : Nd} {m : Lt} {N : Nat} (h : NWf q x) (hm : LWf N m) : NWf q (voteN x m) := by
  refine ⟨hm.n, hm.d0, hm.d1, ?_, by have := h.seen; have := hm.n; show max x.seen m.n ≤ _; omega, h.bn, h.bd0, h.bd1, h.val, h.ln, h.p⟩
  show VWf (m.vs.headD zeroV)
  cases hv : m.vs with
  | nil => exact zeroV_wf
  | cons v l => exact hm.vs v (by rw [hv]; simp)
theorem backV_wf {q : Qu} {x : Nd} (h : NWf q x) : (∀ v ∈ backV x, VWf v) ∧ (backV x).length ≤ 1 := by
  unfold backV
  split
  · exact ⟨fun v hv => by have : v = x.vt := by simpa using hv
                          rw [this]; exact h.vt, by simp⟩
  · exact ⟨fun v hv => by simp at hv, by simp⟩
theorem SWf.prep (h : SWf st) {m : Lt} (hm : LWf st.N m) : SWf (prepS st m) := by
  unfold prepS
  have hx := h.nd m.dst hm.dst
  split
  · exact h.upd (hx.sees hm)
  · exact (h.upd (hx.bind hm)).send ⟨hm.dst, hm.fr, hm.n, hm.d0, hm.d1, (backV_wf hx).2, (backV_wf hx).1, fun e => by simp at e⟩
theorem SWf.acpt (h : SWf st) {m : Lt} (hm : LWf st.N m) : SWf (acptS st m) := by
  unfold acptS
  have hx := h.nd m.dst hm.dst
  split
  · exact h.upd (hx.sees hm)
  · exact (h.upd (hx.vote hm)).send ⟨hm.dst, hm.fr, hm.n, hm.d0, hm.d1, by simp, fun v hv => by simp at hv, fun e => by simp at e⟩
theorem startL_wf {a i : Nat} (ha : a < st.N) (hi : i < st.N) (hN : st.N ≤ 12) (hs : (st.nd a).seen + 1 ≤ lastN) : LWf st.N { startL st a with dst := i } where
  fr := ha
  dst := hi
  n := hs
  d0 := by show (0 : Int) ≤ (a : Int); omega
  d1 := by show (a : Int) < 12; omega
  len := by simp [startL]
  vs := fun v hv => by simp [startL] at hv
  acc := fun e => by simp [startL] at e
theorem SWf.start (h : SWf st) (a : Int) {v : List UInt8} : SWf (startS st a v) := by
  unfold startS
  split
  · rename_i hE
    unfold startE at hE
    split at hE
    · rename_i ha
      split at hE
      · omega
      · rename_i hs
        obtain ⟨h1, h2, h3⟩ := h.n12
        have haN : a.toNat < st.N := by omega
        have hx := h.nd a.toNat haN
        have hn : NWf st.q (startN st a.toNat v) := by
          refine ⟨hx.pn, hx.pd0, hx.pd1, hx.vt, by show (st.nd a.toNat).seen + 1 ≤ _; omega, by show (st.nd a.toNat).seen + 1 ≤ _; omega, by show (0 : Int) ≤ (a.toNat : Int); omega, by show (a.toNat : Int) < 12; omega, ha.2.2, hx.ln, fun p hp => ?_⟩
          have : p = newP st.q ((st.nd a.toNat).seen + 1) (a.toNat : Int) 1 := by
            have hp : some (newP st.q ((st.nd a.toNat).seen + 1) (a.toNat : Int) 1) = some p := hp
            injection hp with hp; exact hp.symm
          rw [this]
          exact ⟨rfl, rfl, rfl, rfl⟩
        exact (h.upd (i := a.toNat) hn).all (m := startL st a.toNat) (fun i hi => startL_wf (st := st) haN hi h2 (by omega)) _ (Nat.le_refl _)
    · omega
  · exact h
theorem SWf.crash (h : SWf st) (a : Int) : SWf (crashS st a) := by
  unfold crashS
  split
  · rename_i ha
    unfold inSy at ha
    rw [decide_eq_true_eq] at ha
    obtain ⟨h1, h2, h3⟩ := h.n12
    have hx := h.nd a.toNat (by omega)
    exact h.upd ⟨hx.pn, hx.pd0, hx.pd1, hx.vt, hx.seen, Nat.zero_le _, Int.le_refl 0, by show (0 : Int) < 12; omega, by show ([] : List UInt8).length ≤ 100; simp, by show ([] : List UInt8).length ≤ 100; simp, fun p hp => by cases hp⟩
  · exact h
theorem proV_vwf {p : Ps} (hw : Wf p) {own : List UInt8} (hn : p.n ≤ lastN) (hd0 : 0 ≤ p.d) (hd1 : p.d < 12) : VWf (proV p 1 own) := by
  unfold proV
  by_cases hE : proE p 1 own = 0
  · rw [if_pos hE]
    cases hs : p.sl 1 with
    | some z =>
      obtain ⟨v, X⟩ := z
      obtain ⟨h1, h2, h3, h4, h5, h6, h7⟩ := hw.sl 1 v X hs
      exact ⟨by show v.s ≤ 1; omega, by show v.n ≤ _; omega, by show 0 ≤ v.d; omega, by show v.d < 12; omega, h3⟩
    | none =>
      refine ⟨by show 1 ≤ 1; omega, hn, hd0, hd1, ?_⟩
      unfold proE at hE
      rw [hs] at hE
      simp only at hE
      show (proVal p 1 own).length ≤ 100
      split at hE
      · split at hE
        · omega
        · split at hE
          · omega
          · omega
      · omega
  · rw [if_neg hE]; exact zeroV_wf
theorem accP_n (p : Ps) (x : Int) (k : Nat) : (accP p x k).n = p.n ∧ (accP p x k).d = p.d := by
  unfold accP
  split
  · split <;> exact ⟨rfl, rfl⟩
  · exact ⟨rfl, rfl⟩
theorem proP_n (p : Ps) (k : Nat) (own : List UInt8) : (proP p k own).n = p.n ∧ (proP p k own).d = p.d := by
  unfold proP
  split
  · split <;> exact ⟨rfl, rfl⟩
  · exact ⟨rfl, rfl⟩
theorem prmP_nd (p : Ps) (x : Int) (l : List Vt) : (prmP p x l).n = p.n ∧ (prmP p x l).d = p.d := by
  unfold prmP
  split <;> exact ⟨rfl, rfl⟩
theorem NWf.setP {q : Qu} {x : Nd} (h : NWf q x) {p p' : Ps} (hp : x.p = some p) (h1 : p'.q = p.q) (h2 : p'.n = p.n ∧ p'.d = p.d) (h3 : p'.f = p.f) : NWf q { x with p := some p' } := by
  obtain ⟨a1, a2, a3, a4⟩ := h.p p hp
  refine ⟨h.pn, h.pd0, h.pd1, h.vt, h.seen, h.bn, h.bd0, h.bd1, h.val, h.ln, fun y hy => ?_⟩
  have hy : some p' = some y := hy
  injection hy with hy
  subst hy
  exact ⟨by rw [h1, a1], by rw [h2.1, a2], by rw [h2.2, a3], by rw [h3, a4]⟩
end
end Go.Proofs.Ytkpfgoalohbfeaa
