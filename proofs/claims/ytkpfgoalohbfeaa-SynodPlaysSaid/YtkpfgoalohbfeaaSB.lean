/- The room in memory. -/
import Derived.Test.YtkpfgoalohbfeaaSA
import Derived.Test.YtkpfgoalohbfeaaBe
namespace Go.Proofs.Ytkpfgoalohbfeaa
open Go.RowKit

/-- What a node's row has of values: the vote's bytes, the proposer, the value, what was learned. -/
structure Nv where
  v : Value
  p : Value
  a : Value
  e : Value
def ndC (x : Nd) (y : Nv) : List Value :=
  [.int .u64 x.pn, .int .i64 x.pd, .int .u64 x.vt.s, .int .u64 x.vt.n, .int .i64 x.vt.d, y.v, .int .u64 x.seen, y.p, .int .u64 x.bn, .int .i64 x.bd, y.a, y.e, .bool x.kn]
def flatM : List Lt → List Value → List Value
  | m :: ms, v :: vs => .int .i64 m.k :: .int .i64 (m.fr : Int) :: .int .i64 (m.dst : Int) :: .int .u64 (m.n : Int) :: .int .i64 m.d :: v :: flatM ms vs
  | _, _ => []
theorem flatM_get : ∀ (ms : List Lt) (vs : List Value) (i : Nat) (m : Lt) (v : Value), ms[i]? = some m → vs[i]? = some v →
    (flatM ms vs)[i * 6]? = some (.int .i64 m.k) ∧ (flatM ms vs)[i * 6 + 1]? = some (.int .i64 (m.fr : Int)) ∧ (flatM ms vs)[i * 6 + 2]? = some (.int .i64 (m.dst : Int)) ∧
    (flatM ms vs)[i * 6 + 3]? = some (.int .u64 (m.n : Int)) ∧ (flatM ms vs)[i * 6 + 4]? = some (.int .i64 m.d) ∧ (flatM ms vs)[i * 6 + 5]? = some v
  | [], _, i, m, v, h, _ => by simp at h
  | _ :: _, [], i, m, v, _, h => by simp at h
  | x :: ms, u :: vs, 0, m, v, h, h' => by
    simp at h h'
    subst h h'
    simp [flatM]
  | x :: ms, u :: vs, i + 1, m, v, h, h' => by
    simp at h h'
    have := flatM_get ms vs i m v h h'
    simp only [flatM, show (i + 1) * 6 = i * 6 + 6 by omega, show i * 6 + 6 + 1 = (i * 6 + 1) + 6 by omega, show i * 6 + 6 + 2 = (i * 6 + 2) + 6 by omega, show i * 6 + 6 + 3 = (i * 6 + 3) + 6 by omega, show i * 6 + 6 + 4 = (i * 6 + 4) + 6 by omega, show i * 6 + 6 + 5 = (i * 6 + 5) + 6 by omega]
    simpa using this
theorem flatM_append : ∀ (ms : List Lt) (vs : List Value) (ns : List Lt) (us : List Value), vs.length = ms.length → flatM (ms ++ ns) (vs ++ us) = flatM ms vs ++ flatM ns us
  | [], vs, ns, us, h => by
    have : vs = [] := List.eq_nil_of_length_eq_zero h
    subst this; rfl
  | x :: ms, [], ns, us, h => by simp at h
  | x :: ms, u :: vs, ns, us, h => by
    simp at h
    simp only [List.cons_append, flatM, flatM_append ms vs ns us h]
theorem flatM_length : ∀ (ms : List Lt) (vs : List Value), vs.length = ms.length → (flatM ms vs).length = ms.length * 6
  | [], vs, h => by simp [flatM]
  | x :: ms, [], h => by simp at h
  | x :: ms, u :: vs, h => by
    simp at h
    simp only [flatM, List.length_cons, flatM_length ms vs h]
    omega
theorem flatM_one : ∀ (ms : List Lt) (vs : List Value), (∀ u ∈ vs, u.oneCell' = true) → ∀ u ∈ flatM ms vs, u.oneCell' = true
  | [], vs, _, u, hu => by simp [flatM] at hu
  | x :: ms, [], _, u, hu => by simp [flatM] at hu
  | x :: ms, v :: vs, h, u, hu => by
    simp only [flatM, List.mem_cons] at hu
    rcases hu with rfl | rfl | rfl | rfl | rfl | rfl | hu
    · rfl
    · rfl
    · rfl
    · rfl
    · rfl
    · exact h _ (by simp)
    · exact flatM_one ms vs (fun z hz => h z (by simp [hz])) u hu

/-- One node's part of the row is written. -/
structure NdR (cs : Array Value) (N i : Nat) (row : List Value) (x : Nat → Nd) (y : Nat → Nv) : Prop where
  sz : cs.size = N * 13
  gets : ∀ (j : Nat) (z : Value), row[j]? = some z → cs[i * 13 + j]? = some z
  len : row.length = 13
  oth : ∀ (a : Nat), a < N → a ≠ i → ∀ (j : Nat) (z : Value), (ndC (x a) (y a))[j]? = some z → cs[a * 13 + j]? = some z
theorem NdR.set_ {cs : Array Value} {N i : Nat} {row : List Value} {x : Nat → Nd} {y : Nat → Nv} (h : NdR cs N i row x y) (hi : i < N) {j0 : Nat} (hj : j0 < 13) (u : Value) :
    NdR (cs.setIfInBounds (i * 13 + j0) u) N i (row.set j0 u) x y := by
  refine ⟨by rw [Array.size_setIfInBounds]; exact h.sz, fun j z hz => ?_, by rw [List.length_set]; exact h.len, fun a ha hai j z hz => ?_⟩
  · rw [List.getElem?_set] at hz
    rw [Array.getElem?_setIfInBounds]
    by_cases hjj : j0 = j
    · subst hjj
      rw [if_pos rfl] at hz
      rw [if_pos rfl, if_pos (by rw [h.sz]; omega)]
      rw [if_pos (by rw [h.len]; exact hj)] at hz
      exact hz
    · rw [if_neg hjj] at hz
      rw [if_neg (by omega)]
      exact h.gets j z hz
  · have hj13 : j < 13 := by
      have := (List.getElem?_eq_some_iff.1 hz).1
      simpa [ndC] using this
    rw [Array.getElem?_setIfInBounds, if_neg (by omega)]
    exact h.oth a ha hai j z hz
theorem NdR.done {cs : Array Value} {N i : Nat} {x : Nat → Nd} {y : Nat → Nv} {x' : Nd} {y' : Nv} (h : NdR cs N i (ndC x' y') x y) :
    ∀ (a : Nat), a < N → ∀ (j : Nat) (z : Value), (ndC (if a = i then x' else x a) (if a = i then y' else y a))[j]? = some z → cs[a * 13 + j]? = some z := fun a ha j z hz => by
  by_cases hai : a = i
  · subst hai
    rw [if_pos rfl, if_pos rfl] at hz
    exact h.gets j z hz
  · rw [if_neg hai, if_neg hai] at hz
    exact h.oth a ha hai j z hz
theorem NdR.cell {cs : Array Value} {N i : Nat} {row : List Value} {x : Nat → Nd} {y : Nat → Nv} {w : World} {nb : Nat} {t : TypeId} (h : NdR cs N i row x y) (hB : Blk w nb t cs) {j : Nat} {z : Value} (hz : row[j]? = some z) :
    w.cell? ⟨nb, i * 13 + j, none⟩ = some z := hB.cell _ (h.gets j z hz)

/-- Bytes that only stand there: in F, not in G. -/
def RoB (w : World) (F G : Nat → Prop) (s : Value) (bs : List UInt8) : Prop := Byt w s bs ∧ ∀ k, s.ownBlock = some k → bs ≠ [] → F k ∧ ¬ G k
def PrAt (w : World) (c : Nat) (x : Option Ps) (y : Value) (Gi : Nat → Prop) : Prop :=
  (x = none ∧ y = .pointer none) ∨ ∃ p ri, x = some p ∧ y = .pointer (some ⟨ri, 0, none⟩) ∧ PR w ri p c Gi
def rmC (q : Qu) (sv : Value) (nb N : Nat) (lv : Value) : Array Value :=
  #[.int .i64 q.k, .int .i64 q.n, .int .i64 q.o, .int .i64 q.t, sv, .slice (some ⟨nb, 0, none⟩) N N, lv]
/-- Beside what may be written. -/
def Ro (F G : Nat → Prop) (k : Nat) : Prop := ¬ F k ∨ G k
structure RmX (w : World) (r nb : Nat) (st : Sy) (c : Nat) (G F : Nat → Prop) (sv lv : Value) (cs : Array Value) (nv : Nat → Nv) (mv : List Value) (Gp : Nat → Nat → Prop) : Prop where
  blk : Blk w r 84 (rmC st.q sv nb st.N lv)
  site : w.ownsRow 0 3 1 sv st.q.s.length (i64s st.q.s)
  siteF : ∀ k, sv.ownBlock = some k → F k ∧ ¬ G k
  nblk : Blk w nb 80 cs
  nsz : cs.size = st.N * 13
  ncell : ∀ (a : Nat), a < st.N → ∀ (j : Nat) (z : Value), (ndC (st.nd a) (nv a))[j]? = some z → cs[a * 13 + j]? = some z
  lrow : w.ownsRow 0 68 6 lv st.l.length (flatM st.l mv)
  mlen : mv.length = st.l.length
  lval : ∀ (i : Nat) (m : Lt) (v : Value), st.l[i]? = some m → mv[i]? = some v → VtL w v m.vs (Ro F G)
  nval : ∀ (a : Nat), a < st.N → RoB w F G (nv a).v (st.nd a).vt.v ∧ RoB w F G (nv a).a (st.nd a).val ∧ RoB w F G (nv a).e (st.nd a).ln
  prop : ∀ (a : Nat), a < st.N → PrAt w c (st.nd a).p (nv a).p (Gp a)
  GF : ∀ k, G k → F k
  Gr : G r
  Gn : G nb
  Gl : ∀ k, lv.ownBlock = some k → G k
  Gg : ∀ (a k : Nat), a < st.N → Gp a k → G k
  dr : ∀ (a : Nat), a < st.N → ¬ Gp a r ∧ ¬ Gp a nb ∧ ∀ k, lv.ownBlock = some k → ¬ Gp a k
  dd : ∀ (a b k : Nat), a < st.N → b < st.N → a ≠ b → Gp a k → ¬ Gp b k
  lt : ∀ k, F k → k < w.heap.size
  wf : SWf st
def Rm (w : World) (r nb : Nat) (st : Sy) (c : Nat) (G F : Nat → Prop) : Prop := ∃ sv lv cs nv mv Gp, RmX w r nb st c G F sv lv cs nv mv Gp

section
variable {w w' : World} {r nb c c' : Nat} {st : Sy} {G G' F F' X Y : Nat → Prop} {sv lv lv' : Value} {cs cs' : Array Value} {nv : Nat → Nv} {mv mv' : List Value} {Gp : Nat → Nat → Prop} {s : Value} {bs : List UInt8}
theorem RoB.fr (h : RoB w F G s bs) (hf : Fr X w w') (hx : ∀ k, X k → Ro F G k) : RoB w' F G s bs :=
  ⟨h.1.fr' hf fun k hk hn hX => by
    obtain ⟨h1, h2⟩ := h.2 k hk hn
    rcases hx k hX with h3 | h3
    · exact h3 h1
    · exact h2 h3, h.2⟩
theorem RoB.up (h : RoB w F G s bs) (hx : ∀ k, Ro F' G' k → Ro F G k) : RoB w F' G' s bs :=
  ⟨h.1, fun k hk hn => by
    obtain ⟨h1, h2⟩ := h.2 k hk hn
    have h3 : ¬ Ro F G k := fun h => h.elim (fun h => h h1) h2
    exact ⟨Classical.byContradiction fun hc => h3 (hx k (.inl hc)), fun hc => h3 (hx k (.inr hc))⟩⟩
theorem PrAt.fr {x : Option Ps} {y : Value} {Gi : Nat → Prop} (h : PrAt w c x y Gi) (hf : Fr X w w') (hx : ∀ k, Gi k → ¬ X k) : PrAt w' c x y Gi := by
  rcases h with h | ⟨p, ri, h1, h2, h3⟩
  · exact .inl h
  · exact .inr ⟨p, ri, h1, h2, h3.fr hf (fun k _ hk => hx k hk)⟩
theorem PrAt.mono {x : Option Ps} {y : Value} {Gi : Nat → Prop} (h : PrAt w c x y Gi) (hc : c ≤ c') : PrAt w c' x y Gi := by
  rcases h with h | ⟨p, ri, h1, h2, h3⟩
  · exact .inl h
  · exact .inr ⟨p, ri, h1, h2, h3.mono hc⟩
theorem RmX.fr (h : RmX w r nb st c G F sv lv cs nv mv Gp) (hf : Fr X w w') (hx : ∀ k, F k → ¬ X k) : RmX w' r nb st c G F sv lv cs nv mv Gp := by
  have hXR : ∀ k, X k → Ro F G k := fun k hk => .inl fun hF => hx k hF hk
  exact ⟨h.blk.fr hf (hx r (h.GF r h.Gr)), own_fr h.site hf (fun k hk => hx k (h.siteF k hk).1), h.siteF, h.nblk.fr hf (hx nb (h.GF nb h.Gn)), h.nsz, h.ncell, own_fr h.lrow hf (fun k hk => hx k (h.GF k (h.Gl k hk))), h.mlen,
    fun i m v h1 h2 => (h.lval i m v h1 h2).up hf hXR, fun a ha => ⟨(h.nval a ha).1.fr hf hXR, (h.nval a ha).2.1.fr hf hXR, (h.nval a ha).2.2.fr hf hXR⟩,
    fun a ha => (h.prop a ha).fr hf (fun k hk => hx k (h.GF k (h.Gg a k ha hk))), h.GF, h.Gr, h.Gn, h.Gl, h.Gg, h.dr, h.dd, fun k hk => by have := h.lt k hk; have := hf.size; omega, h.wf⟩
theorem Rm.fr (h : Rm w r nb st c G F) (hf : Fr X w w') (hx : ∀ k, F k → ¬ X k) : Rm w' r nb st c G F := by
  obtain ⟨sv, lv, cs, nv, mv, Gp, h⟩ := h
  exact ⟨sv, lv, cs, nv, mv, Gp, h.fr hf hx⟩
theorem Rm.none_ (h : Rm w r nb st c G F) (hf : Fr (fun _ => False) w w') : Rm w' r nb st c G F := h.fr hf (fun _ _ h => h)
theorem Rm.wf (h : Rm w r nb st c G F) : SWf st := by
  obtain ⟨sv, lv, cs, nv, mv, Gp, h⟩ := h
  exact h.wf
theorem RmX.mono (h : RmX w r nb st c G F sv lv cs nv mv Gp) (hc : c ≤ c') : RmX w r nb st c' G F sv lv cs nv mv Gp :=
  ⟨h.blk, h.site, h.siteF, h.nblk, h.nsz, h.ncell, h.lrow, h.mlen, h.lval, h.nval, fun a ha => (h.prop a ha).mono hc, h.GF, h.Gr, h.Gn, h.Gl, h.Gg, h.dr, h.dd, h.lt, h.wf⟩
theorem Rm.mono (h : Rm w r nb st c G F) (hc : c ≤ c') : Rm w r nb st c' G F := by
  obtain ⟨sv, lv, cs, nv, mv, Gp, h⟩ := h
  exact ⟨sv, lv, cs, nv, mv, Gp, h.mono hc⟩
/-- More blocks that nobody has. -/
theorem RmX.grow (h : RmX w r nb st c G F sv lv cs nv mv Gp) (hF : ∀ k, F k → F' k) (hlt : ∀ k, F' k → k < w.heap.size) : RmX w r nb st c G F' sv lv cs nv mv Gp := by
  have hX : ∀ k, Ro F' G k → Ro F G k := fun k hk => hk.imp (fun h1 h2 => h1 (hF k h2)) id
  exact ⟨h.blk, h.site, fun k hk => ⟨hF k (h.siteF k hk).1, (h.siteF k hk).2⟩, h.nblk, h.nsz, h.ncell, h.lrow, h.mlen, fun i m v h1 h2 => (h.lval i m v h1 h2).mono hX,
    fun a ha => ⟨(h.nval a ha).1.up hX, (h.nval a ha).2.1.up hX, (h.nval a ha).2.2.up hX⟩, h.prop, fun k hk => hF k (h.GF k hk), h.Gr, h.Gn, h.Gl, h.Gg, h.dr, h.dd, hlt, h.wf⟩
theorem Rm.grow (h : Rm w r nb st c G F) (hF : ∀ k, F k → F' k) (hlt : ∀ k, F' k → k < w.heap.size) : Rm w r nb st c G F' := by
  obtain ⟨sv, lv, cs, nv, mv, Gp, h⟩ := h
  exact ⟨sv, lv, cs, nv, mv, Gp, h.grow hF hlt⟩
theorem RmX.ndr (h : RmX w r nb st c G F sv lv cs nv mv Gp) {i : Nat} (hi : i < st.N) : NdR cs st.N i (ndC (st.nd i) (nv i)) st.nd nv :=
  ⟨h.nsz, fun j z hz => h.ncell i hi j z hz, rfl, fun a ha _ j z hz => h.ncell a ha j z hz⟩
/-- A node turned. -/
theorem RmX.putN (h : RmX w r nb st c G F sv lv cs nv mv Gp) {i : Nat} (hi : i < st.N) {x' : Nd} {y' : Nv} {Gi : Nat → Prop} (hf : Fr Y w w') (hY : ∀ k, Y k → k = nb ∨ Gp i k ∨ ¬ F k)
    (hB : Blk w' nb 80 cs') (hR : NdR cs' st.N i (ndC x' y') st.nd nv) (hGi : ∀ k, Gi k → Gp i k ∨ (¬ F k ∧ F' k))
    (hv : RoB w' F' (fun k => G k ∨ Gi k) y'.v x'.vt.v) (ha : RoB w' F' (fun k => G k ∨ Gi k) y'.a x'.val) (he : RoB w' F' (fun k => G k ∨ Gi k) y'.e x'.ln)
    (hp : PrAt w' c' x'.p y'.p Gi) (hc : c ≤ c') (hwf : NWf st.q x') (hF : ∀ k, F k → F' k) (hlt : ∀ k, F' k → k < w'.heap.size) :
    RmX w' r nb (st.upd i x') c' (fun k => G k ∨ Gi k) F' sv lv cs' (fun a => if a = i then y' else nv a) mv (fun a => if a = i then Gi else Gp a) := by
  have hYR : ∀ k, Y k → Ro F G k := fun k hk => by
    rcases hY k hk with h1 | h1 | h1
    · exact .inr (h1 ▸ h.Gn)
    · exact .inr (h.Gg i k hi h1)
    · exact .inl h1
  have hX : ∀ k, Ro F' (fun k => G k ∨ Gi k) k → Ro F G k := fun k hk => by
    rcases hk with h1 | h1 | h1
    · exact .inl fun h2 => h1 (hF k h2)
    · exact .inr h1
    · rcases hGi k h1 with h2 | h2
      · exact .inr (h.Gg i k hi h2)
      · exact .inl h2.1
  have hro : ∀ k, F k → ¬ G k → ¬ Y k := fun k h1 h2 h3 => by
    rcases hYR k h3 with h4 | h4
    · exact h4 h1
    · exact h2 h4
  have hnr : r ≠ nb := h.blk.ne_ h.nblk (by decide)
  have hln : ∀ k, lv.ownBlock = some k → k ≠ nb := fun k hk => own_blk_ne h.lrow h.nblk (by decide) k hk
  refine ⟨h.blk.fr hf (fun hk => ?_), own_fr h.site hf (fun k hk => hro k (h.siteF k hk).1 (h.siteF k hk).2), fun k hk => ?_, hB, hR.sz, ?_, own_fr h.lrow hf (fun k hk hy => ?_), h.mlen, fun j m v h1 h2 => ((h.lval j m v h1 h2).up hf hYR).mono hX, fun a haN => ?_, fun a haN => ?_, fun k hk => ?_, .inl h.Gr, .inl h.Gn, fun k hk => .inl (h.Gl k hk), fun a k haN hk => ?_, fun a haN => ?_, fun a b k haN hbN hab h1 h2 => ?_, hlt, h.wf.upd hwf⟩
  · rcases hY r hk with h1 | h1 | h1
    · exact hnr h1
    · exact (h.dr i hi).1 h1
    · exact h1 (h.GF r h.Gr)
  · have h1 := h.siteF k hk
    refine ⟨hF k h1.1, fun h2 => ?_⟩
    rcases hX k (.inr h2) with h3 | h3
    · exact h3 h1.1
    · exact h1.2 h3
  · exact hR.done
  · rcases hY k hy with h1 | h1 | h1
    · exact hln k hk h1
    · exact (h.dr i hi).2.2 k hk h1
    · exact h1 (h.GF k (h.Gl k hk))
  · by_cases hai : a = i
    · subst hai
      show RoB w' F' _ (if a = a then y' else nv a).v (if a = a then x' else st.nd a).vt.v ∧ RoB w' F' _ (if a = a then y' else nv a).a (if a = a then x' else st.nd a).val ∧ RoB w' F' _ (if a = a then y' else nv a).e (if a = a then x' else st.nd a).ln
      rw [if_pos rfl, if_pos rfl]
      exact ⟨hv, ha, he⟩
    · show RoB w' F' _ (if a = i then y' else nv a).v (if a = i then x' else st.nd a).vt.v ∧ RoB w' F' _ (if a = i then y' else nv a).a (if a = i then x' else st.nd a).val ∧ RoB w' F' _ (if a = i then y' else nv a).e (if a = i then x' else st.nd a).ln
      rw [if_neg hai, if_neg hai]
      exact ⟨((h.nval a haN).1.fr hf hYR).up hX, ((h.nval a haN).2.1.fr hf hYR).up hX, ((h.nval a haN).2.2.fr hf hYR).up hX⟩
  · by_cases hai : a = i
    · subst hai
      show PrAt w' c' (if a = a then x' else st.nd a).p (if a = a then y' else nv a).p (if a = a then Gi else Gp a)
      rw [if_pos rfl, if_pos rfl, if_pos rfl]
      exact hp
    · show PrAt w' c' (if a = i then x' else st.nd a).p (if a = i then y' else nv a).p (if a = i then Gi else Gp a)
      rw [if_neg hai, if_neg hai, if_neg hai]
      refine ((h.prop a haN).fr hf (fun k hk hy => ?_)).mono hc
      rcases hY k hy with h1 | h1 | h1
      · subst h1; exact (h.dr a haN).2.1 hk
      · exact h.dd a i k haN hi hai hk h1
      · exact h1 (h.GF k (h.Gg a k haN hk))
  · rcases hk with h1 | h1
    · exact hF k (h.GF k h1)
    · rcases hGi k h1 with h2 | h2
      · exact hF k (h.GF k (h.Gg i k hi h2))
      · exact h2.2
  · have hk : (if a = i then Gi else Gp a) k := hk
    split at hk
    · exact .inr hk
    · exact .inl (h.Gg a k haN hk)
  · show ¬ (if a = i then Gi else Gp a) r ∧ ¬ (if a = i then Gi else Gp a) nb ∧ ∀ k, lv.ownBlock = some k → ¬ (if a = i then Gi else Gp a) k
    split
    · refine ⟨fun h1 => ?_, fun h1 => ?_, fun k hk h1 => ?_⟩
      · rcases hGi r h1 with h2 | h2
        · exact (h.dr i hi).1 h2
        · exact h2.1 (h.GF r h.Gr)
      · rcases hGi nb h1 with h2 | h2
        · exact (h.dr i hi).2.1 h2
        · exact h2.1 (h.GF nb h.Gn)
      · rcases hGi k h1 with h2 | h2
        · exact (h.dr i hi).2.2 k hk h2
        · exact h2.1 (h.GF k (h.Gl k hk))
    · exact h.dr a haN
  · have h1 : (if a = i then Gi else Gp a) k := h1
    have h2 : (if b = i then Gi else Gp b) k := h2
    split at h1
    · split at h2
      · omega
      · rename_i e _
        rcases hGi k h1 with h3 | h3
        · exact h.dd i b k hi hbN (by omega) h3 h2
        · exact h3.1 (h.GF k (h.Gg b k hbN h2))
    · split at h2
      · rcases hGi k h2 with h3 | h3
        · exact h.dd a i k haN hi (by omega) h1 h3
        · exact h3.1 (h.GF k (h.Gg a k haN h1))
      · exact h.dd a b k haN hbN hab h1 h2
/-- The letters turned. -/
theorem RmX.putL (h : RmX w r nb st c G F sv lv cs nv mv Gp) {l' : List Lt} (hf : Fr Y w w') (hY : ∀ k, Y k → k = r ∨ lv.ownBlock = some k ∨ ¬ F k)
    (hB : Blk w' r 84 (rmC st.q sv nb st.N lv')) (hrow : w'.ownsRow 0 68 6 lv' l'.length (flatM l' mv')) (hml : mv'.length = l'.length)
    (hlv : ∀ k, lv'.ownBlock = some k → lv.ownBlock = some k ∨ (¬ F k ∧ F' k))
    (hval : ∀ (i : Nat) (m : Lt) (v : Value), l'[i]? = some m → mv'[i]? = some v → VtL w' v m.vs (Ro F' (fun k => G k ∨ lv'.ownBlock = some k)))
    (hwf : SWf { st with l := l' }) (hF : ∀ k, F k → F' k) (hlt : ∀ k, F' k → k < w'.heap.size) :
    RmX w' r nb { st with l := l' } c (fun k => G k ∨ lv'.ownBlock = some k) F' sv lv' cs nv mv' Gp := by
  have hYR : ∀ k, Y k → Ro F G k := fun k hk => by
    rcases hY k hk with h1 | h1 | h1
    · exact .inr (h1 ▸ h.Gr)
    · exact .inr (h.Gl k h1)
    · exact .inl h1
  have hX : ∀ k, Ro F' (fun k => G k ∨ lv'.ownBlock = some k) k → Ro F G k := fun k hk => by
    rcases hk with h1 | h1 | h1
    · exact .inl fun h2 => h1 (hF k h2)
    · exact .inr h1
    · rcases hlv k h1 with h2 | h2
      · exact .inr (h.Gl k h2)
      · exact .inl h2.1
  have hro : ∀ k, F k → ¬ G k → ¬ Y k := fun k h1 h2 h3 => by
    rcases hYR k h3 with h4 | h4
    · exact h4 h1
    · exact h2 h4
  refine ⟨hB, own_fr h.site hf (fun k hk => hro k (h.siteF k hk).1 (h.siteF k hk).2), fun k hk => ?_, h.nblk.fr hf (fun hk => ?_), h.nsz, h.ncell, hrow, hml, hval, fun a haN => ?_, fun a haN => (h.prop a haN).fr hf (fun k hk hy => ?_), fun k hk => ?_, .inl h.Gr, .inl h.Gn, fun k hk => .inr hk, fun a k haN hk => .inl (h.Gg a k haN hk), fun a haN => ⟨(h.dr a haN).1, (h.dr a haN).2.1, fun k hk h1 => ?_⟩, h.dd, hlt, hwf⟩
  · have h1 := h.siteF k hk
    refine ⟨hF k h1.1, fun h2 => ?_⟩
    rcases hX k (.inr h2) with h3 | h3
    · exact h3 h1.1
    · exact h1.2 h3
  · rcases hY nb hk with h1 | h1 | h1
    · exact h.blk.ne_ h.nblk (by decide) h1.symm
    · exact own_blk_ne h.lrow h.nblk (by decide) nb h1 rfl
    · exact h1 (h.GF nb h.Gn)
  · exact ⟨((h.nval a haN).1.fr hf hYR).up hX, ((h.nval a haN).2.1.fr hf hYR).up hX, ((h.nval a haN).2.2.fr hf hYR).up hX⟩
  · rcases hY k hy with h1 | h1 | h1
    · subst h1; exact (h.dr a haN).1 hk
    · exact (h.dr a haN).2.2 k h1 hk
    · exact h1 (h.GF k (h.Gg a k haN hk))
  · rcases hk with h1 | h1
    · exact hF k (h.GF k h1)
    · rcases hlv k h1 with h2 | h2
      · exact hF k (h.GF k (h.Gl k h2))
      · exact h2.2
  · rcases hlv k hk with h2 | h2
    · exact (h.dr a haN).2.2 k h2 h1
    · exact h2.1 (h.GF k (h.Gg a k haN h1))
end
end Go.Proofs.Ytkpfgoalohbfeaa
