/- The document's room in memory (printed by gen_srb.py out of XSB). -/
import Derived.Test.YtkpfgoalohbfeaaSJ
import Derived.Test.YtkpfgoalohbfeaaBh
import Derived.Test.YtkpfgoalohbfeaaBi
namespace Go.Proofs.Ytkpfgoalohbfeaa
open Go.RowKit

/-- What a node's row has of values: its votes, the proposer, the value, what was learned. -/
structure Rv where
  v : Value
  p : Value
  a : Value
  e : Value
def ndD (x : Nd) (y : Rv) : List Value := [.int .u64 x.pn, .int .i64 x.pd, y.v, .int .u64 x.seen, y.p, y.a, y.e, .bool x.kn]
structure NdE (cs : Array Value) (N i : Nat) (row : List Value) (x : Nat → Nd) (y : Nat → Rv) : Prop where
  sz : cs.size = N * 8
  gets : ∀ (j : Nat) (z : Value), row[j]? = some z → cs[i * 8 + j]? = some z
  len : row.length = 8
  oth : ∀ (a : Nat), a < N → a ≠ i → ∀ (j : Nat) (z : Value), (ndD (x a) (y a))[j]? = some z → cs[a * 8 + j]? = some z
theorem NdE.set_ {cs : Array Value} {N i : Nat} {row : List Value} {x : Nat → Nd} {y : Nat → Rv} (h : NdE cs N i row x y) (hi : i < N) {j0 : Nat} (hj : j0 < 8) (u : Value) :
    NdE (cs.setIfInBounds (i * 8 + j0) u) N i (row.set j0 u) x y := by
  refine ⟨by rw [Array.size_setIfInBounds]; exact h.sz, fun j z hz => ?_, by rw [List.length_set]; exact h.len, fun a ha hai j z hz => ?_⟩
  · rw [List.getElem?_set] at hz
    rw [Array.getElem?_setIfInBounds]
    by_cases hjj : j0 = j
    · subst hjj
      rw [if_pos rfl] at hz
      rw [if_pos rfl, if_pos (by rw [h.sz]; omega)]
      rw [if_pos (by rw [h.len]; exact hj)] at hz
      exact hz
    · rw [if_neg hjj] at hz
      rw [if_neg (by omega)]
      exact h.gets j z hz
  · have hj8 : j < 8 := by
      have := (List.getElem?_eq_some_iff.1 hz).1
      simpa [ndD] using this
    rw [Array.getElem?_setIfInBounds, if_neg (by omega)]
    exact h.oth a ha hai j z hz
theorem NdE.done {cs : Array Value} {N i : Nat} {x : Nat → Nd} {y : Nat → Rv} {x' : Nd} {y' : Rv} (h : NdE cs N i (ndD x' y') x y) :
    ∀ (a : Nat), a < N → ∀ (j : Nat) (z : Value), (ndD (if a = i then x' else x a) (if a = i then y' else y a))[j]? = some z → cs[a * 8 + j]? = some z := fun a ha j z hz => by
  by_cases hai : a = i
  · subst hai
    rw [if_pos rfl, if_pos rfl] at hz
    exact h.gets j z hz
  · rw [if_neg hai, if_neg hai] at hz
    exact h.oth a ha hai j z hz
theorem NdE.cell {cs : Array Value} {N i : Nat} {row : List Value} {x : Nat → Nd} {y : Nat → Rv} {w : World} {nb : Nat} {t : TypeId} (h : NdE cs N i row x y) (hB : Blk w nb t cs) {j : Nat} {z : Value} (hz : row[j]? = some z) :
    w.cell? ⟨nb, i * 8 + j, none⟩ = some z := hB.cell _ (h.gets j z hz)


def RfP (w : World) (c : Nat) (x : Option Ps) (y : Value) (Gi : Nat → Prop) : Prop :=
  (x = none ∧ y = .pointer none) ∨ ∃ p ri rs, x = some p ∧ y = .pointer (some ⟨ri, 0, none⟩) ∧ RR w ri rs Gi ∧ Rel p rs ∧ rs.S.length ≤ c ∧ rs.M.length ≤ c ∧ (p.sl 1 ≠ none → readyB p = true)
/-- What was learned: in F; if in G, the proposer's own, which has chosen it. -/
def LnAt (w : World) (F G Gi : Nat → Prop) (x : Nd) (s : Value) : Prop :=
  Byt w s x.ln ∧ ∀ k, s.ownBlock = some k → x.ln ≠ [] → F k ∧ (¬ G k ∨ (Gi k ∧ ∃ p, x.p = some p ∧ chB p 1 = some x.ln ∧ readyB p = true))
structure RfX (w : World) (r nb : Nat) (st : Sy) (c : Nat) (G F : Nat → Prop) (sv lv : Value) (cs : Array Value) (nv : Nat → Rv) (mv : List Value) (Gp : Nat → Nat → Prop) : Prop where
  blk : Blk w r 97 (rmC st.q sv nb st.N lv)
  site : w.ownsRow 0 3 1 sv st.q.s.length (i64s st.q.s)
  siteF : ∀ k, sv.ownBlock = some k → F k ∧ ¬ G k
  nblk : Blk w nb 104 cs
  nsz : cs.size = st.N * 8
  ncell : ∀ (a : Nat), a < st.N → ∀ (j : Nat) (z : Value), (ndD (st.nd a) (nv a))[j]? = some z → cs[a * 8 + j]? = some z
  lrow : w.ownsRow 0 68 6 lv st.l.length (flatM st.l mv)
  mlen : mv.length = st.l.length
  lval : ∀ (i : Nat) (m : Lt) (v : Value), st.l[i]? = some m → mv[i]? = some v → VtL w v m.vs (Ro F G)
  nval : ∀ (a : Nat), a < st.N → VtL w (nv a).v (backV (st.nd a)) (Ro F G) ∧ RoB w F G (nv a).a (st.nd a).val ∧ LnAt w F G (Gp a) (st.nd a) (nv a).e
  z0 : ∀ (a : Nat), a < st.N → (st.nd a).vt.s = 0 → (st.nd a).vt = zeroV
  prop : ∀ (a : Nat), a < st.N → RfP w c (st.nd a).p (nv a).p (Gp a)
  GF : ∀ k, G k → F k
  Gr : G r
  Gn : G nb
  Gl : ∀ k, lv.ownBlock = some k → G k
  Gg : ∀ (a k : Nat), a < st.N → Gp a k → G k
  dr : ∀ (a : Nat), a < st.N → ¬ Gp a r ∧ ¬ Gp a nb ∧ ∀ k, lv.ownBlock = some k → ¬ Gp a k
  dd : ∀ (a b k : Nat), a < st.N → b < st.N → a ≠ b → Gp a k → ¬ Gp b k
  lt : ∀ k, F k → k < w.heap.size
  wf : SWf st
def Rf (w : World) (r nb : Nat) (st : Sy) (c : Nat) (G F : Nat → Prop) : Prop := ∃ sv lv cs nv mv Gp, RfX w r nb st c G F sv lv cs nv mv Gp

section
variable {w w' : World} {r nb c c' : Nat} {st : Sy} {G G' F F' X Y : Nat → Prop} {sv lv lv' : Value} {cs cs' : Array Value} {nv : Nat → Rv} {mv mv' : List Value} {Gp : Nat → Nat → Prop} {s : Value} {bs : List UInt8}
theorem RfP.fr {x : Option Ps} {y : Value} {Gi : Nat → Prop} (h : RfP w c x y Gi) (hf : Fr X w w') (hx : ∀ k, Gi k → ¬ X k) : RfP w' c x y Gi := by
  rcases h with h | ⟨p, ri, rs, h1, h2, h3, h4⟩
  · exact .inl h
  · exact .inr ⟨p, ri, rs, h1, h2, h3.fr hf hx, h4⟩
theorem RfP.mono {x : Option Ps} {y : Value} {Gi : Nat → Prop} (h : RfP w c x y Gi) (hc : c ≤ c') : RfP w c' x y Gi := by
  rcases h with h | ⟨p, ri, rs, h1, h2, h3, h4, h5, h6, h7⟩
  · exact .inl h
  · exact .inr ⟨p, ri, rs, h1, h2, h3, h4, by omega, by omega, h7⟩
theorem LnAt.fr {Gi : Nat → Prop} {x : Nd} (h : LnAt w F G Gi x s) (hf : Fr X w w') (hx : ∀ k, F k → (¬ G k ∨ Gi k) → ¬ X k) : LnAt w' F G Gi x s :=
  ⟨h.1.fr' hf fun k hk hn hX => by
    obtain ⟨h1, h2⟩ := h.2 k hk hn
    exact hx k h1 (h2.imp id (fun h => h.1)) hX, h.2⟩
theorem LnAt.up {Gi : Nat → Prop} {x : Nd} (h : LnAt w F G Gi x s) (hF : ∀ k, F k → F' k) (hG : ∀ k, F k → ¬ G k → ¬ G' k) : LnAt w F' G' Gi x s :=
  ⟨h.1, fun k hk hn => by
    obtain ⟨h1, h2⟩ := h.2 k hk hn
    exact ⟨hF k h1, h2.imp (hG k h1) id⟩⟩
theorem RfX.fr (h : RfX w r nb st c G F sv lv cs nv mv Gp) (hf : Fr X w w') (hx : ∀ k, F k → ¬ X k) : RfX w' r nb st c G F sv lv cs nv mv Gp := by
  have hXR : ∀ k, X k → Ro F G k := fun k hk => .inl fun hF => hx k hF hk
  exact ⟨h.blk.fr hf (hx r (h.GF r h.Gr)), own_fr h.site hf (fun k hk => hx k (h.siteF k hk).1), h.siteF, h.nblk.fr hf (hx nb (h.GF nb h.Gn)), h.nsz, h.ncell, own_fr h.lrow hf (fun k hk => hx k (h.GF k (h.Gl k hk))), h.mlen,
    fun i m v h1 h2 => (h.lval i m v h1 h2).up hf hXR, fun a ha => ⟨(h.nval a ha).1.up hf hXR, (h.nval a ha).2.1.fr hf hXR, (h.nval a ha).2.2.fr hf (fun k h1 _ => hx k h1)⟩, h.z0,
    fun a ha => (h.prop a ha).fr hf (fun k hk => hx k (h.GF k (h.Gg a k ha hk))), h.GF, h.Gr, h.Gn, h.Gl, h.Gg, h.dr, h.dd, fun k hk => by have := h.lt k hk; have := hf.size; omega, h.wf⟩
theorem Rf.fr (h : Rf w r nb st c G F) (hf : Fr X w w') (hx : ∀ k, F k → ¬ X k) : Rf w' r nb st c G F := by
  obtain ⟨sv, lv, cs, nv, mv, Gp, h⟩ := h
  exact ⟨sv, lv, cs, nv, mv, Gp, h.fr hf hx⟩
theorem Rf.none_ (h : Rf w r nb st c G F) (hf : Fr (fun _ => False) w w') : Rf w' r nb st c G F := h.fr hf (fun _ _ h => h)
theorem Rf.wf (h : Rf w r nb st c G F) : SWf st := by
  obtain ⟨sv, lv, cs, nv, mv, Gp, h⟩ := h
  exact h.wf
theorem RfX.mono (h : RfX w r nb st c G F sv lv cs nv mv Gp) (hc : c ≤ c') : RfX w r nb st c' G F sv lv cs nv mv Gp :=
  ⟨h.blk, h.site, h.siteF, h.nblk, h.nsz, h.ncell, h.lrow, h.mlen, h.lval, h.nval, h.z0, fun a ha => (h.prop a ha).mono hc, h.GF, h.Gr, h.Gn, h.Gl, h.Gg, h.dr, h.dd, h.lt, h.wf⟩
theorem Rf.mono (h : Rf w r nb st c G F) (hc : c ≤ c') : Rf w r nb st c' G F := by
  obtain ⟨sv, lv, cs, nv, mv, Gp, h⟩ := h
  exact ⟨sv, lv, cs, nv, mv, Gp, h.mono hc⟩
/-- More blocks that nobody has. -/
theorem RfX.grow (h : RfX w r nb st c G F sv lv cs nv mv Gp) (hF : ∀ k, F k → F' k) (hlt : ∀ k, F' k → k < w.heap.size) : RfX w r nb st c G F' sv lv cs nv mv Gp := by
  have hX : ∀ k, Ro F' G k → Ro F G k := fun k hk => hk.imp (fun h1 h2 => h1 (hF k h2)) id
  exact ⟨h.blk, h.site, fun k hk => ⟨hF k (h.siteF k hk).1, (h.siteF k hk).2⟩, h.nblk, h.nsz, h.ncell, h.lrow, h.mlen, fun i m v h1 h2 => (h.lval i m v h1 h2).mono hX,
    fun a ha => ⟨(h.nval a ha).1.mono hX, (h.nval a ha).2.1.up hX, (h.nval a ha).2.2.up hF (fun _ _ h => h)⟩, h.z0, h.prop, fun k hk => hF k (h.GF k hk), h.Gr, h.Gn, h.Gl, h.Gg, h.dr, h.dd, hlt, h.wf⟩
theorem Rf.grow (h : Rf w r nb st c G F) (hF : ∀ k, F k → F' k) (hlt : ∀ k, F' k → k < w.heap.size) : Rf w r nb st c G F' := by
  obtain ⟨sv, lv, cs, nv, mv, Gp, h⟩ := h
  exact ⟨sv, lv, cs, nv, mv, Gp, h.grow hF hlt⟩
theorem RfX.ndr (h : RfX w r nb st c G F sv lv cs nv mv Gp) {i : Nat} (hi : i < st.N) : NdE cs st.N i (ndD (st.nd i) (nv i)) st.nd nv :=
  ⟨h.nsz, fun j z hz => h.ncell i hi j z hz, rfl, fun a ha _ j z hz => h.ncell a ha j z hz⟩
/-- A node turned. -/
theorem RfX.putN' (h : RfX w r nb st c G F sv lv cs nv mv Gp) {i : Nat} (hi : i < st.N) {x' : Nd} {y' : Rv} {Gi G2 : Nat → Prop} (g1 : ∀ k, G2 k → G k ∨ Gi k) (g2 : ∀ k, G k → ¬ Gp i k → G2 k) (g3 : ∀ k, Gi k → G2 k) (hf : Fr Y w w') (hY : ∀ k, Y k → k = nb ∨ Gp i k ∨ ¬ F k)
    (hB : Blk w' nb 104 cs') (hR : NdE cs' st.N i (ndD x' y') st.nd nv) (hGi : ∀ k, Gi k → Gp i k ∨ (¬ F k ∧ F' k))
    (hv : VtL w' y'.v (backV x') (Ro F' G2)) (hz : x'.vt.s = 0 → x'.vt = zeroV) (ha : RoB w' F' G2 y'.a x'.val) (he : LnAt w' F' G2 Gi x' y'.e)
    (hp : RfP w' c' x'.p y'.p Gi) (hc : c ≤ c') (hwf : NWf st.q x') (hF : ∀ k, F k → F' k) (hlt : ∀ k, F' k → k < w'.heap.size) :
    RfX w' r nb (st.upd i x') c' G2 F' sv lv cs' (fun a => if a = i then y' else nv a) mv (fun a => if a = i then Gi else Gp a) := by
  have hYR : ∀ k, Y k → Ro F G k := fun k hk => by
    rcases hY k hk with h1 | h1 | h1
    · exact .inr (h1 ▸ h.Gn)
    · exact .inr (h.Gg i k hi h1)
    · exact .inl h1
  have hX : ∀ k, Ro F' G2 k → Ro F G k := fun k hk => by
    rcases hk.imp id (g1 k) with h1 | h1 | h1
    · exact .inl fun h2 => h1 (hF k h2)
    · exact .inr h1
    · rcases hGi k h1 with h2 | h2
      · exact .inr (h.Gg i k hi h2)
      · exact .inl h2.1
  have hro : ∀ k, F k → ¬ G k → ¬ Y k := fun k h1 h2 h3 => by
    rcases hYR k h3 with h4 | h4
    · exact h4 h1
    · exact h2 h4
  have hnr : r ≠ nb := h.blk.ne_ h.nblk (by decide)
  have hln : ∀ k, lv.ownBlock = some k → k ≠ nb := fun k hk => own_blk_ne h.lrow h.nblk (by decide) k hk
  refine ⟨h.blk.fr hf (fun hk => ?_), own_fr h.site hf (fun k hk => hro k (h.siteF k hk).1 (h.siteF k hk).2), fun k hk => ?_, hB, hR.sz, ?_, own_fr h.lrow hf (fun k hk hy => ?_), h.mlen, fun j m v h1 h2 => ((h.lval j m v h1 h2).up hf hYR).mono hX, fun a haN => ?_, fun a haN => ?_, fun a haN => ?_, fun k hk => ?_, g2 _ h.Gr (h.dr i hi).1, g2 _ h.Gn (h.dr i hi).2.1, fun k hk => g2 _ (h.Gl k hk) ((h.dr i hi).2.2 k hk), fun a k haN hk => ?_, fun a haN => ?_, fun a b k haN hbN hab h1 h2 => ?_, hlt, h.wf.upd hwf⟩
  · rcases hY r hk with h1 | h1 | h1
    · exact hnr h1
    · exact (h.dr i hi).1 h1
    · exact h1 (h.GF r h.Gr)
  · have h1 := h.siteF k hk
    refine ⟨hF k h1.1, fun h2 => ?_⟩
    rcases hX k (.inr h2) with h3 | h3
    · exact h3 h1.1
    · exact h1.2 h3
  · exact hR.done
  · rcases hY k hy with h1 | h1 | h1
    · exact hln k hk h1
    · exact (h.dr i hi).2.2 k hk h1
    · exact h1 (h.GF k (h.Gl k hk))
  · by_cases hai : a = i
    · subst hai
      show VtL w' (if a = a then y' else nv a).v (backV (if a = a then x' else st.nd a)) _ ∧ RoB w' F' _ (if a = a then y' else nv a).a (if a = a then x' else st.nd a).val ∧ LnAt w' F' _ (if a = a then Gi else Gp a) (if a = a then x' else st.nd a) (if a = a then y' else nv a).e
      rw [if_pos rfl, if_pos rfl, if_pos rfl]
      exact ⟨hv, ha, he⟩
    · show VtL w' (if a = i then y' else nv a).v (backV (if a = i then x' else st.nd a)) _ ∧ RoB w' F' _ (if a = i then y' else nv a).a (if a = i then x' else st.nd a).val ∧ LnAt w' F' _ (if a = i then Gi else Gp a) (if a = i then x' else st.nd a) (if a = i then y' else nv a).e
      rw [if_neg hai, if_neg hai, if_neg hai]
      refine ⟨((h.nval a haN).1.up hf hYR).mono hX, ((h.nval a haN).2.1.fr hf hYR).up hX, ((h.nval a haN).2.2.fr hf (fun k h1 h2 h3 => ?_)).up hF (fun k h1 h2 h3 => ?_)⟩
      · rcases h2 with h2 | h2
        · exact hro k h1 h2 h3
        · rcases hY k h3 with h4 | h4 | h4
          · subst h4; exact (h.dr a haN).2.1 h2
          · exact h.dd a i k haN hi hai h2 h4
          · exact h4 h1
      · rcases g1 k h3 with h3 | h3
        · exact h2 h3
        · rcases hGi k h3 with h4 | h4
          · exact h2 (h.Gg i k hi h4)
          · exact h4.1 h1
  · by_cases hai : a = i
    · subst hai
      show (if a = a then x' else st.nd a).vt.s = 0 → (if a = a then x' else st.nd a).vt = zeroV
      rw [if_pos rfl]; exact hz
    · show (if a = i then x' else st.nd a).vt.s = 0 → (if a = i then x' else st.nd a).vt = zeroV
      rw [if_neg hai]; exact h.z0 a haN
  · by_cases hai : a = i
    · subst hai
      show RfP w' c' (if a = a then x' else st.nd a).p (if a = a then y' else nv a).p (if a = a then Gi else Gp a)
      rw [if_pos rfl, if_pos rfl, if_pos rfl]
      exact hp
    · show RfP w' c' (if a = i then x' else st.nd a).p (if a = i then y' else nv a).p (if a = i then Gi else Gp a)
      rw [if_neg hai, if_neg hai, if_neg hai]
      refine ((h.prop a haN).fr hf (fun k hk hy => ?_)).mono hc
      rcases hY k hy with h1 | h1 | h1
      · subst h1; exact (h.dr a haN).2.1 hk
      · exact h.dd a i k haN hi hai hk h1
      · exact h1 (h.GF k (h.Gg a k haN hk))
  · rcases g1 k hk with h1 | h1
    · exact hF k (h.GF k h1)
    · rcases hGi k h1 with h2 | h2
      · exact hF k (h.GF k (h.Gg i k hi h2))
      · exact h2.2
  · have hk : (if a = i then Gi else Gp a) k := hk
    split at hk
    · exact g3 k hk
    · rename_i hne; exact g2 k (h.Gg a k haN hk) (fun h5 => h.dd a i k haN hi hne hk h5)
  · show ¬ (if a = i then Gi else Gp a) r ∧ ¬ (if a = i then Gi else Gp a) nb ∧ ∀ k, lv.ownBlock = some k → ¬ (if a = i then Gi else Gp a) k
    split
    · refine ⟨fun h1 => ?_, fun h1 => ?_, fun k hk h1 => ?_⟩
      · rcases hGi r h1 with h2 | h2
        · exact (h.dr i hi).1 h2
        · exact h2.1 (h.GF r h.Gr)
      · rcases hGi nb h1 with h2 | h2
        · exact (h.dr i hi).2.1 h2
        · exact h2.1 (h.GF nb h.Gn)
      · rcases hGi k h1 with h2 | h2
        · exact (h.dr i hi).2.2 k hk h2
        · exact h2.1 (h.GF k (h.Gl k hk))
    · exact h.dr a haN
  · have h1 : (if a = i then Gi else Gp a) k := h1
    have h2 : (if b = i then Gi else Gp b) k := h2
    split at h1
    · split at h2
      · omega
      · rename_i e _
        rcases hGi k h1 with h3 | h3
        · exact h.dd i b k hi hbN (by omega) h3 h2
        · exact h3.1 (h.GF k (h.Gg b k hbN h2))
    · split at h2
      · rcases hGi k h2 with h3 | h3
        · exact h.dd a i k haN hi (by omega) h1 h3
        · exact h3.1 (h.GF k (h.Gg a k haN h1))
      · exact h.dd a b k haN hbN hab h1 h2
/-- A node turned. -/
theorem RfX.putN (h : RfX w r nb st c G F sv lv cs nv mv Gp) {i : Nat} (hi : i < st.N) {x' : Nd} {y' : Rv} {Gi : Nat → Prop} (hf : Fr Y w w') (hY : ∀ k, Y k → k = nb ∨ Gp i k ∨ ¬ F k)
    (hB : Blk w' nb 104 cs') (hR : NdE cs' st.N i (ndD x' y') st.nd nv) (hGi : ∀ k, Gi k → Gp i k ∨ (¬ F k ∧ F' k))
    (hv : VtL w' y'.v (backV x') (Ro F' (fun k => G k ∨ Gi k))) (hz : x'.vt.s = 0 → x'.vt = zeroV) (ha : RoB w' F' (fun k => G k ∨ Gi k) y'.a x'.val) (he : LnAt w' F' (fun k => G k ∨ Gi k) Gi x' y'.e)
    (hp : RfP w' c' x'.p y'.p Gi) (hc : c ≤ c') (hwf : NWf st.q x') (hF : ∀ k, F k → F' k) (hlt : ∀ k, F' k → k < w'.heap.size) :
    RfX w' r nb (st.upd i x') c' (fun k => G k ∨ Gi k) F' sv lv cs' (fun a => if a = i then y' else nv a) mv (fun a => if a = i then Gi else Gp a) :=
  h.putN' hi (fun _ h => h) (fun _ h _ => .inl h) (fun _ h => .inr h) hf hY hB hR hGi hv hz ha he hp hc hwf hF hlt
/-- The letters turned. -/
theorem RfX.putL (h : RfX w r nb st c G F sv lv cs nv mv Gp) {l' : List Lt} (hf : Fr Y w w') (hY : ∀ k, Y k → k = r ∨ lv.ownBlock = some k ∨ ¬ F k)
    (hB : Blk w' r 97 (rmC st.q sv nb st.N lv')) (hrow : w'.ownsRow 0 68 6 lv' l'.length (flatM l' mv')) (hml : mv'.length = l'.length)
    (hlv : ∀ k, lv'.ownBlock = some k → lv.ownBlock = some k ∨ (¬ F k ∧ F' k))
    (hval : ∀ (i : Nat) (m : Lt) (v : Value), l'[i]? = some m → mv'[i]? = some v → VtL w' v m.vs (Ro F' (fun k => G k ∨ lv'.ownBlock = some k)))
    (hwf : SWf { st with l := l' }) (hF : ∀ k, F k → F' k) (hlt : ∀ k, F' k → k < w'.heap.size) :
    RfX w' r nb { st with l := l' } c (fun k => G k ∨ lv'.ownBlock = some k) F' sv lv' cs nv mv' Gp := by
  have hYR : ∀ k, Y k → Ro F G k := fun k hk => by
    rcases hY k hk with h1 | h1 | h1
    · exact .inr (h1 ▸ h.Gr)
    · exact .inr (h.Gl k h1)
    · exact .inl h1
  have hX : ∀ k, Ro F' (fun k => G k ∨ lv'.ownBlock = some k) k → Ro F G k := fun k hk => by
    rcases hk with h1 | h1 | h1
    · exact .inl fun h2 => h1 (hF k h2)
    · exact .inr h1
    · rcases hlv k h1 with h2 | h2
      · exact .inr (h.Gl k h2)
      · exact .inl h2.1
  have hro : ∀ k, F k → ¬ G k → ¬ Y k := fun k h1 h2 h3 => by
    rcases hYR k h3 with h4 | h4
    · exact h4 h1
    · exact h2 h4
  refine ⟨hB, own_fr h.site hf (fun k hk => hro k (h.siteF k hk).1 (h.siteF k hk).2), fun k hk => ?_, h.nblk.fr hf (fun hk => ?_), h.nsz, h.ncell, hrow, hml, hval, fun a haN => ?_, h.z0, fun a haN => (h.prop a haN).fr hf (fun k hk hy => ?_), fun k hk => ?_, .inl h.Gr, .inl h.Gn, fun k hk => .inr hk, fun a k haN hk => .inl (h.Gg a k haN hk), fun a haN => ⟨(h.dr a haN).1, (h.dr a haN).2.1, fun k hk h1 => ?_⟩, h.dd, hlt, hwf⟩
  · have h1 := h.siteF k hk
    refine ⟨hF k h1.1, fun h2 => ?_⟩
    rcases hX k (.inr h2) with h3 | h3
    · exact h3 h1.1
    · exact h1.2 h3
  · rcases hY nb hk with h1 | h1 | h1
    · exact h.blk.ne_ h.nblk (by decide) h1.symm
    · exact own_blk_ne h.lrow h.nblk (by decide) nb h1 rfl
    · exact h1 (h.GF nb h.Gn)
  · refine ⟨((h.nval a haN).1.up hf hYR).mono hX, ((h.nval a haN).2.1.fr hf hYR).up hX, ((h.nval a haN).2.2.fr hf (fun k h1 h2 h3 => ?_)).up hF (fun k h1 h2 h3 => ?_)⟩
    · rcases h2 with h2 | h2
      · exact hro k h1 h2 h3
      · rcases hY k h3 with h4 | h4 | h4
        · subst h4; exact (h.dr a haN).1 h2
        · exact (h.dr a haN).2.2 k h4 h2
        · exact h4 h1
    · rcases h3 with h3 | h3
      · exact h2 h3
      · rcases hlv k h3 with h4 | h4
        · exact h2 (h.Gl k h4)
        · exact h4.1 h1
  · rcases hY k hy with h1 | h1 | h1
    · subst h1; exact (h.dr a haN).1 hk
    · exact (h.dr a haN).2.2 k h1 hk
    · exact h1 (h.GF k (h.Gg a k haN hk))
  · rcases hk with h1 | h1
    · exact hF k (h.GF k h1)
    · rcases hlv k h1 with h2 | h2
      · exact hF k (h.GF k (h.Gl k h2))
      · exact h2.2
  · rcases hlv k hk with h2 | h2
    · exact (h.dr a haN).2.2 k h2 h1
    · exact h2.1 (h.GF k (h.Gg a k haN h1))
end
end Go.Proofs.Ytkpfgoalohbfeaa
