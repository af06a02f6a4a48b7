/- Merged: PNe PRa PRb PRc PRd PRe PRf PRg. -/
import Derived.Test.YtkpfgoalohbfeaaBe
import Derived.Test.YtkpfgoalohbfeaaBd
import Derived.Test.YtkpfgoalohbfeaaBf
import Derived.Deep.LoopGhost
import Derived.Lib.SlBytesConst
import Derived.Deep.RegionWith
import Derived.Deep.RegionHeld3
import Derived.Deep.AppendLies
import Derived.Deep.QuietTactic
import Derived.BigQuiet
/- ProposeNeeds. -/
namespace Go.Proofs.Ytkpfgoalohbfeaa
open Go.RowKit

theorem Ints.keep {W w : World} {v : Value} {l : List Int} (h : Ints W v l) (hf : Fr (fun k => W.heap.size ≤ k) W w) : Ints w v l := by
  obtain ⟨A, c, rfl, h1⟩ := h
  refine ⟨A, c, rfl, fun hn => ?_⟩
  obtain ⟨b, off, rfl, h2⟩ := h1 hn
  refine ⟨b, off, rfl, fun i z hz => hf.cell (h2 i z hz) ?_⟩
  have : b < W.heap.size := World.block_lt_of_cell? W _ (h2 i z hz)
  show ¬ W.heap.size ≤ b
  omega

def needP (q : Qu) (x : Nat) : Ps := ⟨q, 1, 0, 7, x, fun _ => none, fun _ => none⟩
def inN (q : Qu) (a : Int) : Bool := decide (0 ≤ a ∧ a < q.n)
def orN (q : Qu) (x : Nat) (a : Int) : Nat := if inN q a then x ||| 2 ^ a.toNat else x
theorem or_had {x i : Nat} (h : x.testBit i = true) : x ||| 2 ^ i = x := by
  apply Nat.eq_of_testBit_eq
  intro j
  rw [Nat.testBit_or, Nat.testBit_two_pow]
  by_cases hj : i = j
  · subst hj; simp [h]
  · simp [hj]
theorem need_prmE (q : Qu) (x : Nat) (a : Int) : prmE (needP q x) a [] = if inN q a then 0 else 2 := by
  unfold prmE
  show (if inN q a then (if rightV _ _ _ [] then (0 : Int) else 91) else 2) = _
  rfl
theorem need_prm (q : Qu) (x : Nat) (a : Int) : prmP (needP q x) a [] = needP q (orN q x a) := by
  unfold prmP orN
  rw [need_prmE]
  cases h : inN q a with
  | false => simp
  | true =>
    cases ht : x.testBit a.toNat with
    | true => rw [if_neg (by simp [needP, ht]), if_pos rfl, or_had ht]
    | false => rw [if_pos ⟨rfl, ht⟩, if_pos rfl]; rfl
def chP (q : Qu) (x y : Nat) : Ps := { needP q x with sl := upd (fun _ => none) 7 (⟨7, 1, 0, [118]⟩, y) }
theorem need_ready (q : Qu) (x : Nat) : readyB (needP q x) = isQ q false x.testBit := rfl
theorem need_six (q : Qu) (x : Nat) : proE (needP q x) 6 [] = (if isQ q false x.testBit then 2 else 100) ∧ proP (needP q x) 6 [] = needP q x ∧ proV (needP q x) 6 [] = ⟨0, 0, 0, []⟩ := by
  have e : proE (needP q x) 6 [] = if isQ q false x.testBit then 2 else 100 := by
    unfold proE
    rw [need_ready]
    cases isQ q false x.testBit <;> rfl
  refine ⟨e, ?_, ?_⟩
  · unfold proP; rw [e, if_neg (by split <;> simp)]
  · unfold proV; rw [e, if_neg (by split <;> simp)]
theorem need_yes (q : Qu) (x : Nat) (h : isQ q false x.testBit = true) : proE (needP q x) 7 [118] = 0 ∧ proP (needP q x) 7 [118] = chP q x 0 ∧ proV (needP q x) 7 [118] = ⟨7, 1, 0, [118]⟩ := by
  have e : proE (needP q x) 7 [118] = 0 := by
    unfold proE
    rw [need_ready, h]
    rfl
  refine ⟨e, ?_, ?_⟩
  · unfold proP; rw [e, if_pos rfl]; rfl
  · unfold proV; rw [e, if_pos rfl]; rfl
theorem need_no (q : Qu) (x : Nat) (h : isQ q false x.testBit = false) : proE (needP q x) 7 [118] = 100 ∧ proP (needP q x) 7 [118] = needP q x ∧ proV (needP q x) 7 [118] = ⟨0, 0, 0, []⟩ := by
  have e : proE (needP q x) 7 [118] = 100 := by
    unfold proE
    rw [need_ready, h]
    rfl
  refine ⟨e, ?_, ?_⟩
  · unfold proP; rw [e, if_neg (by simp)]
  · unfold proV; rw [e, if_neg (by simp)]
theorem need_acc0 (q : Qu) (x : Nat) (h : 1 ≤ q.n) : accE (needP q x) 0 7 = 4 := by
  unfold accE
  rw [if_pos (by simp [nodeB, needP]; omega)]
  rfl
theorem ch_accE (q : Qu) (x y : Nat) (a : Int) : accE (chP q x y) a 7 = if inN q a then 0 else 2 := by
  unfold accE
  show (if inN q a then _ else _) = _
  rfl
theorem ch_acc (q : Qu) (x y : Nat) (a : Int) : accP (chP q x y) a 7 = chP q x (orN q y a) := by
  unfold accP orN
  show (if inN q a then _ else _) = _
  cases inN q a with
  | false => rfl
  | true =>
    simp only [if_true]
    unfold chP
    simp only [upd, if_true]
    congr 1
    funext j
    show (if j = 7 then _ else (if j = 7 then _ else _)) = if j = 7 then _ else _
    split <;> rfl
theorem ch_ch (q : Qu) (x y : Nat) : chB (chP q x y) 7 = if isQ q true y.testBit then some [118] else none := rfl
theorem ch_not (q : Qu) (x y k : Nat) (h : k ≠ 7) : isCh (chP q x y) k = false := by
  unfold isCh chB chP upd
  simp [h]
theorem ch_pre (q : Qu) (x y : Nat) : PreAt (chP q x y) (if isQ q true y.testBit then 8 else 7) := by
  cases h : isQ q true y.testBit with
  | true =>
    refine ⟨by show 7 ≤ 8; omega, fun j h1 h2 => ?_, ch_not _ _ _ _ (by simp)⟩
    have h1 : 7 ≤ j := h1
    have h2 : j < 8 := h2
    obtain rfl : j = 7 := by omega
    unfold isCh
    rw [ch_ch, h]
    rfl
  | false =>
    refine ⟨Nat.le_refl _, fun j h1 h2 => ?_, ?_⟩
    · have h1 : 7 ≤ j := h1
      have h2 : j < 7 := h2
      omega
    · show isCh _ 7 = false
      unfold isCh
      rw [ch_ch, h]
      rfl
theorem ch_pre_t (q : Qu) (x y : Nat) (h : isQ q true y.testBit = true) : PreAt (chP q x y) 8 := by
  have := ch_pre q x y
  rwa [h] at this
theorem ch_pre_f (q : Qu) (x y : Nat) (h : isQ q true y.testBit = false) : PreAt (chP q x y) 7 := by
  have := ch_pre q x y
  rwa [h] at this

/-- The law's proposer, and its system in a block of the law's own. -/
structure NeR (W w : World) (r bq : Nat) (q : Qu) (s : Value) (p : Ps) (c : Nat) (G : Nat → Prop) : Prop where
  l : Lw W w r p c G
  b : Blk w bq 24 #[.int .i64 q.k, .int .i64 q.n, .int .i64 q.o, .int .i64 q.t, s]
  n : ¬ G bq
section
variable {W w w' : World} {r bq c c' : Nat} {q : Qu} {s : Value} {p p' : Ps} {G G' : Nat → Prop}
theorem NeR.up (h : NeR W w r bq q s p c G) (hf : Fr (fun _ => False) w w') : NeR W w' r bq q s p c G := ⟨h.l.up hf, h.b.fr hf (fun h => h), h.n⟩
theorem NeR.next (h : NeR W w r bq q s p c G) (hl : Lw W w' r p' c' G') (hn : Nx G G' w w') (hf : Fr G w w') : NeR W w' r bq q s p' c' G' := ⟨hl, h.b.fr hf h.n, hn.not h.n h.b.lt⟩
theorem NeR.it (h : NeR W w r bq q s p c G) {l : List Int} (hs : Ints W s l) : Ints w s l := hs.keep h.l.fr
theorem NeR.end_ (h : NeR W w r bq q s p c G) (hf : Fr (fun _ => False) w w') : Below W.heap.size W w' := h.l.none_ hf
theorem NeR.mono (h : NeR W w r bq q s p c G) (hc : c ≤ c') : NeR W w r bq q s p c' G := ⟨h.l.mono hc, h.b, h.n⟩
end
theorem qn12 {q : Qu} (h : rightE q = 0) : 1 ≤ q.n ∧ q.n ≤ 12 := by
  have := (ok_of h).n
  omega

end Go.Proofs.Ytkpfgoalohbfeaa

/- The document's proposer: what it holds; Copy of a system; New. -/
namespace Go.Proofs.Ytkpfgoalohbfeaa
open Go.RowKit

/-- The document's proposer: what each node told, what was proposed, who accepted. -/
structure Rs where
  q : Qu
  n : Nat
  d : Int
  f : Nat
  L : List (Nat × List Vt)
  S : List Vt
  M : List (Nat × Nat)
structure RWf (st : Rs) : Prop where
  ok : Ok st.q
  ql : st.q.s.length ≤ 1000
  rb : rightB st.n st.d = true
  n64 : st.n < 18446744073709551616
  f1 : 1 ≤ st.f
  f64 : st.f < 18446744073709551616
  node : ∀ t ∈ st.L, t.1 < st.q.n.toNat
  dist : st.L.Pairwise fun a b => a.1 ≠ b.1
  vot : ∀ t ∈ st.L, rightV st.n st.d (st.f - 1) t.2 = true
  sl : ∀ v ∈ st.S, st.f ≤ v.s ∧ v.s < 18446744073709551616 ∧ v.n = st.n ∧ v.d = st.d ∧ v.v.length ≤ 100
  sd : st.S.Pairwise fun a b => a.s ≠ b.s
  mks : ∀ m ∈ st.M, m.1 < st.q.n.toNat ∧ m.2 < 18446744073709551616
def rs0 (q : Qu) (n : Nat) (d : Int) (f : Nat) : Rs := ⟨q, n, d, f, [], [], []⟩
theorem rs0_wf {q : Qu} {n : Nat} {d : Int} {f : Nat} (h : Ok q) (hl : q.s.length ≤ 1000) (hb : rightB n d = true) (hn : n < 18446744073709551616) (hf1 : 1 ≤ f) (hf64 : f < 18446744073709551616) : RWf (rs0 q n d f) :=
  ⟨h, hl, hb, hn, hf1, hf64, by simp [rs0], by simp [rs0], by simp [rs0], by simp [rs0], by simp [rs0], by simp [rs0]⟩

/-! ### rows of pairs -/
def flat2 : List (Value × Value) → List Value
  | [] => []
  | (a, b) :: l => a :: b :: flat2 l
theorem flat2_get : ∀ (ps : List (Value × Value)) (j : Nat) (a b : Value), ps[j]? = some (a, b) → (flat2 ps)[j * 2]? = some a ∧ (flat2 ps)[j * 2 + 1]? = some b
  | [], j, a, b, h => by simp at h
  | (x, y) :: ps, 0, a, b, h => by
    simp at h
    obtain ⟨h1, h2⟩ := h
    subst h1 h2
    exact ⟨rfl, rfl⟩
  | (x, y) :: ps, j + 1, a, b, h => by
    have := flat2_get ps j a b (by simpa using h)
    simp only [flat2]
    rw [show (j + 1) * 2 = j * 2 + 1 + 1 by omega, show j * 2 + 1 + 1 + 1 = (j * 2 + 1) + 1 + 1 by omega]
    simpa only [List.getElem?_cons_succ] using this
theorem flat2_append : ∀ (ps qs : List (Value × Value)), flat2 (ps ++ qs) = flat2 ps ++ flat2 qs
  | [], qs => by simp [flat2]
  | (a, b) :: ps, qs => by simp only [List.cons_append, flat2]; rw [flat2_append ps qs]
def tld (L : List (Nat × List Vt)) (tv : List Value) : List (Value × Value) := List.zipWith (fun t v => (Value.int .i64 (t.1 : Int), v)) L tv
def mrk (M : List (Nat × Nat)) : List (Value × Value) := M.map fun m => (.int .i64 (m.1 : Int), .int .u64 (m.2 : Int))
theorem tld_get {L : List (Nat × List Vt)} {tv : List Value} {i : Nat} {t : Nat × List Vt} {v : Value} (h : L[i]? = some t) (h' : tv[i]? = some v) : (tld L tv)[i]? = some (.int .i64 (t.1 : Int), v) := by
  unfold tld; rw [List.getElem?_zipWith, h, h']
theorem tld_append {L : List (Nat × List Vt)} {tv : List Value} (h : tv.length = L.length) (t : Nat × List Vt) (v : Value) : tld (L ++ [t]) (tv ++ [v]) = tld L tv ++ [(.int .i64 (t.1 : Int), v)] := by
  unfold tld; rw [List.zipWith_append h.symm]; rfl

/-- Blocks that may turn where the document's proposer does. -/
def Off (F : Nat → Prop) (r : Nat) (lv sl ml : Value) (k : Nat) : Prop := ¬ F k ∨ k = r ∨ lv.ownBlock = some k ∨ sl.ownBlock = some k ∨ ml.ownBlock = some k
structure RX (w : World) (r : Nat) (st : Rs) (F : Nat → Prop) (sv lv sl ml : Value) (tv svs : List Value) : Prop where
  blk : Blk w r 136 #[.int .i64 st.q.k, .int .i64 st.q.n, .int .i64 st.q.o, .int .i64 st.q.t, sv, .int .u64 st.n, .int .i64 st.d, .int .u64 st.f, lv, sl, ml]
  site : w.ownsRow 0 3 1 sv st.q.s.length (i64s st.q.s)
  told : w.ownsRow 0 146 2 lv st.L.length (flat2 (tld st.L tv))
  slot : w.ownsRow 0 46 4 sl st.S.length (flatV st.S svs)
  mark : w.ownsRow 0 150 2 ml st.M.length (flat2 (mrk st.M))
  tlen : tv.length = st.L.length
  slen : svs.length = st.S.length
  tvo : ∀ (i : Nat) (t : Nat × List Vt) (v : Value), st.L[i]? = some t → tv[i]? = some v → VtL w v t.2 (Off F r lv sl ml)
  svo : ∀ (i : Nat) (v : Vt) (s : Value), st.S[i]? = some v → svs[i]? = some s → Byt w s v.v ∧ ∀ k, s.ownBlock = some k → v.v ≠ [] → ¬ Off F r lv sl ml k
  rF : F r
  svF : ∀ k, sv.ownBlock = some k → F k
  lvF : ∀ k, lv.ownBlock = some k → F k
  slF : ∀ k, sl.ownBlock = some k → F k
  mlF : ∀ k, ml.ownBlock = some k → F k
  wf : RWf st
def RR (w : World) (r : Nat) (st : Rs) (F : Nat → Prop) : Prop := ∃ sv lv sl ml tv svs, RX w r st F sv lv sl ml tv svs

section
variable {w w' : World} {r : Nat} {st : Rs} {F F' X : Nat → Prop} {sv lv sl ml : Value} {tv svs : List Value}
theorem RX.fr (h : RX w r st F sv lv sl ml tv svs) (hf : Fr X w w') (hx : ∀ k, F k → ¬ X k) : RX w' r st F sv lv sl ml tv svs := by
  have hO : ∀ k, X k → Off F r lv sl ml k := fun k hk => .inl fun hF => hx k hF hk
  exact ⟨h.blk.fr hf (hx r h.rF), own_fr h.site hf (fun k hk => hx k (h.svF k hk)), own_fr h.told hf (fun k hk => hx k (h.lvF k hk)), own_fr h.slot hf (fun k hk => hx k (h.slF k hk)), own_fr h.mark hf (fun k hk => hx k (h.mlF k hk)), h.tlen, h.slen,
    fun i t v h1 h2 => (h.tvo i t v h1 h2).up hf hO, fun i v s h1 h2 => ⟨(h.svo i v s h1 h2).1.fr' hf (fun k hk hn hX => (h.svo i v s h1 h2).2 k hk hn (hO k hX)), (h.svo i v s h1 h2).2⟩, h.rF, h.svF, h.lvF, h.slF, h.mlF, h.wf⟩
theorem RR.fr (h : RR w r st F) (hf : Fr X w w') (hx : ∀ k, F k → ¬ X k) : RR w' r st F := by
  obtain ⟨sv, lv, sl, ml, tv, svs, h⟩ := h
  exact ⟨sv, lv, sl, ml, tv, svs, h.fr hf hx⟩
theorem RR.none_ (h : RR w r st F) (hf : Fr (fun _ => False) w w') : RR w' r st F := h.fr hf (fun _ _ h => h)
theorem RR.wf (h : RR w r st F) : RWf st := by obtain ⟨_, _, _, _, _, _, h⟩ := h; exact h.wf
theorem own_sl4 {w : World} {base e size n : Nat} {v : Value} {xs : List Value} (h : w.ownsRow base e size v n xs) : ∃ va vc, v = .slice va n vc := by
  rcases own_form h with ⟨h1, h2, _⟩ | ⟨g, cap, cur, h1, _⟩
  · exact ⟨none, 0, by rw [h1, h2]⟩
  · exact ⟨some ⟨g, 0, none⟩, cap, h1⟩
/-- What a node told. -/
theorem RX.told_at (h : RX w r st F sv lv sl ml tv svs) {i : Nat} {t : Nat × List Vt} (ht : st.L[i]? = some t) :
    ∃ g lc v, lv = .slice (some ⟨g, 0, none⟩) st.L.length lc ∧ w.cell? ⟨g, i * 2, none⟩ = some (.int .i64 (t.1 : Int)) ∧ w.cell? ⟨g, i * 2 + 1, none⟩ = some v ∧ VtL w v t.2 (Off F r lv sl ml) := by
  have hi := (List.getElem?_eq_some_iff.1 ht).1
  have hiv : i < tv.length := by rw [h.tlen]; exact hi
  obtain ⟨e1, e2⟩ := flat2_get _ i _ _ (tld_get ht (List.getElem?_eq_getElem hiv))
  have hrow := h.told
  rcases own_form hrow with ⟨_, hL, _⟩ | ⟨g, cap, cur, hlv, _⟩
  · omega
  · refine ⟨g, cap, tv[i], hlv, ?_, ?_, h.tvo i t _ ht (List.getElem?_eq_getElem hiv)⟩
    · rw [hlv] at hrow; exact own_cell hrow _ e1
    · rw [hlv] at hrow; exact own_cell hrow _ e2
theorem RX.slot_at (h : RX w r st F sv lv sl ml tv svs) {i : Nat} {v : Vt} (hv : st.S[i]? = some v) :
    ∃ g lc s, sl = .slice (some ⟨g, 0, none⟩) st.S.length lc ∧ w.cell? ⟨g, i * 4, none⟩ = some (.int .u64 v.s) ∧ w.cell? ⟨g, i * 4 + 1, none⟩ = some (.int .u64 v.n) ∧ w.cell? ⟨g, i * 4 + 2, none⟩ = some (.int .i64 v.d) ∧ w.cell? ⟨g, i * 4 + 3, none⟩ = some s ∧ Byt w s v.v ∧ ∀ k, s.ownBlock = some k → v.v ≠ [] → ¬ Off F r lv sl ml k := by
  have hi := (List.getElem?_eq_some_iff.1 hv).1
  have hiv : i < svs.length := by rw [h.slen]; exact hi
  obtain ⟨e1, e2, e3, e4⟩ := flatV_get _ _ i _ _ hv (List.getElem?_eq_getElem hiv)
  have hrow := h.slot
  have ho := h.svo i v _ hv (List.getElem?_eq_getElem hiv)
  rcases own_form hrow with ⟨_, hL, _⟩ | ⟨g, cap, cur, hsl, _⟩
  · omega
  · rw [hsl] at hrow
    exact ⟨g, cap, svs[i], hsl, own_cell hrow _ e1, own_cell hrow _ e2, own_cell hrow _ e3, own_cell hrow _ e4, ho.1, ho.2⟩
theorem RX.mark_at (h : RX w r st F sv lv sl ml tv svs) {i : Nat} {m : Nat × Nat} (hm : st.M[i]? = some m) :
    ∃ g lc, ml = .slice (some ⟨g, 0, none⟩) st.M.length lc ∧ w.cell? ⟨g, i * 2, none⟩ = some (.int .i64 (m.1 : Int)) ∧ w.cell? ⟨g, i * 2 + 1, none⟩ = some (.int .u64 (m.2 : Int)) := by
  have hi := (List.getElem?_eq_some_iff.1 hm).1
  have hmm : (mrk st.M)[i]? = some (.int .i64 (m.1 : Int), .int .u64 (m.2 : Int)) := by unfold mrk; rw [List.getElem?_map, hm]; rfl
  obtain ⟨e1, e2⟩ := flat2_get _ i _ _ hmm
  have hrow := h.mark
  rcases own_form hrow with ⟨_, hL, _⟩ | ⟨g, cap, cur, hml, _⟩
  · omega
  · rw [hml] at hrow
    exact ⟨g, cap, hml, own_cell hrow _ e1, own_cell hrow _ e2⟩
end

/-! ### append of numbers to nothing -/
set_option maxRecDepth 100000 in
theorem ap_ints (w : World) (A : Option Addr) (c : Nat) (l : List Int) (hs : Ints w (.slice A l.length c) l) (hc : A = none → c = 0) (hl : l.length ≤ 1000) (ty : TypeId) (consts : Array Bool) :
    ∃ v' w', (builtin .append #[22, 22] ty consts #[.slice none 0 0, .slice A l.length c]).run Try.prog w = .ok (.value v') w' ∧ (w'.ownsRow w.heap.size 3 1 v' l.length (i64s l) ∧ Fr (fun _ => False) w w') := by
  obtain ⟨i0, hi0, hz0, hz1, hz2⟩ := info_parts i64info
  have hown0 := World.ownsRow_nil w w.heap.size 3 1
  have hfin : ∀ v' w', Appended w.heap.size 3 1 w (.slice none 0 0) 0 l.length [] (i64s l) v' w' → w'.ownsRow w.heap.size 3 1 v' l.length (i64s l) ∧ Fr (fun _ => False) w w' := fun v' w' h2 => by
    have h3 := h2.1
    simp only [Nat.zero_add, List.nil_append] at h3
    exact ⟨h3, h2.fr (Fr.refl _ w) (fun k hk _ => by simp [Value.ownBlock] at hk)⟩
  cases A with
  | none =>
    have := hc rfl
    subst this
    have hn : l = [] := by
      by_cases hn : l = []
      · exact hn
      · obtain ⟨A', c', he, h2⟩ := hs
        injection he with e1 _ _
        subst e1
        obtain ⟨_, _, h, _⟩ := h2 hn
        cases h
    subst hn
    have hr := run_append_owned_none (P := Try.prog) w w.heap.size 22 ty 3 i0 1 Try.underlying22 hi0 _ 0 [] hown0
    exact ⟨_, _, by simp only [builtin, Sem.run_bind, List.length_nil, hr, Result.andThen_ok, Sem.run_pure], hfin _ _ ⟨by simpa [i64s] using hown0, ⟨rfl, rfl, rfl, Nat.le_refl _, fun _ _ _ => rfl⟩, .inl rfl⟩⟩
  | some a =>
    obtain ⟨v', w', h1, h2⟩ := ap_cells (base := w.heap.size) (ty := ty) (P := Try.prog) Try.underlying22 hi0 hz0 hz1 hz2 rfl (by omega) hown0 a l.length c (i64s l) (by simp [i64s]) (fun j u hu => by
      have hn : l ≠ [] := by rintro rfl; simp [i64s] at hu
      obtain ⟨A', c', he, h2⟩ := hs
      injection he with e1 _ _
      subst e1
      obtain ⟨b, off, he, h3⟩ := h2 hn
      injection he with he
      subst he
      rw [add_none]
      simp only [i64s, List.getElem?_map, Option.map_eq_some_iff] at hu
      obtain ⟨z, hz, rfl⟩ := hu
      exact h3 j z hz) (fun u hu => by
      simp only [i64s, List.mem_map] at hu
      obtain ⟨z, _, rfl⟩ := hu
      rfl) (by simp only [maxLen]; omega) (by omega) (Nat.le_refl _) consts
    exact ⟨v', w', h1, hfin _ _ h2⟩

set_option maxHeartbeats 1000000 in
theorem rcopyq_any (q : Qu) (s : Value) (w : World) (hs : Ints w s q.s) (hnil : ∀ c, s = .slice none 0 c → c = 0) (hl : q.s.length ≤ 1000) :
    Calls Try.prog 45 #[q.v s] w fun e w' => ∃ va vc, e = .returned (q.v (.slice va q.s.length vc)) ∧ w'.ownsRow w.heap.size 3 1 (.slice va q.s.length vc) q.s.length (i64s q.s) ∧ Fr (fun _ => False) w w' := by
  obtain ⟨k, n, o, t, l⟩ := q
  have hs0 := hs
  obtain ⟨A, c, rfl, hcl⟩ := hs0
  simp only [Qu.v] at hl hs ⊢
  have hc : A = none → c = 0 := by
    rintro rfl
    by_cases hn : l = []
    · subst hn; exact hnil c rfl
    · obtain ⟨_, _, h, _⟩ := hcl hn
      cases h
  have HCn := Lib.hid hc
  clear hc hcl hnil
  obtain ⟨w1, hw1⟩ : ∃ w1, w1 = (w.alloc (.cells #[.int .i64 k, .int .i64 n, .int .i64 o, .int .i64 t, .slice A l.length c] 24)).alloc (.cells #[.int .i64 0, .int .i64 0, .int .i64 0, .int .i64 0, .slice none 0 0] 24) := ⟨_, rfl⟩
  have hf1 : Fr (fun _ => False) w w1 := by rw [hw1]; exact ((Fr.refl _ w).alloc _).alloc _
  have hb1 : Blk w1 w.heap.size 24 #[.int .i64 k, .int .i64 n, .int .i64 o, .int .i64 t, .slice A l.length c] := by rw [hw1]; exact (Blk.new _ _ _).alloc _
  have hb2 : Blk w1 (w.heap.size + 1) 24 #[.int .i64 0, .int .i64 0, .int .i64 0, .int .i64 0, .slice none 0 0] := by
    have := Blk.new (w.alloc (.cells #[.int .i64 k, .int .i64 n, .int .i64 o, .int .i64 t, .slice A l.length c] 24)) 24 #[.int .i64 0, .int .i64 0, .int .i64 0, .int .i64 0, .slice none 0 0]
    rw [hw1]; simpa using this
  have hz1 : w1.heap.size = w.heap.size + 2 := by rw [hw1]; simp
  have hs1 := hs.up hf1
  have HW := Lib.hid hw1
  have HZ := Lib.hid hz1
  clear hw1 hz1
  have a4 := hb1.cell 4 rfl
  go_enter Try.func45, Try.ntmps45
  go_upto_region 1 with (fail)
  rw [← HW.out]
  clear HW
  go_wp2_with (first
    | (at_builtin
       refine wpList_bi2 rfl .append _ _ _ _ _ rfl rfl rfl _ (ap_ints w1 A c l hs1 HCn.out hl _) ?_
       rintro v' w4 ⟨ho, hf4⟩
       obtain ⟨va, vc, rfl⟩ := own_sl4 ho
       have hb1' := hb1.fr hf4 (fun h => h)
       have hb2' := hb2.fr hf4 (fun h => h)
       clear a4
       have a0 := hb1'.cell 0 rfl
       have a1 := hb1'.cell 1 rfl
       have a2 := hb1'.cell 2 rfl
       have a3 := hb1'.cell 3 rfl
       have a4 := hb1'.cell 4 rfl
       have a5 := hb1'.frozen 4
       have d0 := hb2'.cell 0 rfl
       have d1 := hb2'.cell 1 rfl
       have d2 := hb2'.cell 2 rfl
       have d3 := hb2'.cell 3 rfl
       have d4 := hb2'.cell 4 rfl
       have d5 := hb2'.frozen))
  have hX : Fr (fun k => k = w.heap.size ∨ k = w.heap.size + 1) w4 ((((((w4.setCell ⟨w.heap.size, 4, none⟩ (.slice va l.length vc)).setCell ⟨w.heap.size + 1, 0, none⟩ (.int .i64 k)).setCell ⟨w.heap.size + 1, 1, none⟩ (.int .i64 n)).setCell ⟨w.heap.size + 1, 2, none⟩ (.int .i64 o)).setCell ⟨w.heap.size + 1, 3, none⟩ (.int .i64 t)).setCell ⟨w.heap.size + 1, 4, none⟩ (.slice va l.length vc)) :=
    ((((((Fr.refl _ w4).setCell (p := ⟨w.heap.size, 4, none⟩) (by simp) _).setCell (p := ⟨w.heap.size + 1, 0, none⟩) (by simp) _).setCell (p := ⟨w.heap.size + 1, 1, none⟩) (by simp) _).setCell (p := ⟨w.heap.size + 1, 2, none⟩) (by simp) _).setCell (p := ⟨w.heap.size + 1, 3, none⟩) (by simp) _).setCell (p := ⟨w.heap.size + 1, 4, none⟩) (by simp) _
  have hB' := (((((hb2'.far (p := ⟨w.heap.size, 4, none⟩) (by simp) (.slice va l.length vc)).set_ 0 (.int .i64 k)).set_ 1 (.int .i64 n)).set_ 2 (.int .i64 o)).set_ 3 (.int .i64 t)).set_ 4 (.slice va l.length vc)
  refine bodyPost_ret (results_cell_row rfl _ _ (w.heap.size + 1) 24 #[.int .i64 k, .int .i64 n, .int .i64 o, .int .i64 t, .slice va l.length vc] (0, 0) _ rfl ?_ Try.underlying24 rfl (by kernel_rfl)) rfl ⟨va, vc, rfl, ?_, ?_⟩
  · show Blk _ (w.heap.size + 1) 24 _
    simpa using hB'
  · refine own_fr (own_up (own_base ho) (fun k hk => ?_)) hX (fun k hk => ?_)
    · have := (ho.lt k hk).1; have := HZ.out; omega
    · have := (ho.lt k hk).1; have := HZ.out; omega
  · exact (hf1.tr hf4).trans hX (fun k hk h => by rcases h with h | h; exact h; omega)
end Go.Proofs.Ytkpfgoalohbfeaa

/- The document's New. -/
namespace Go.Proofs.Ytkpfgoalohbfeaa
open Go.RowKit

set_option maxRecDepth 100000 in
set_option maxHeartbeats 4000000 in
theorem rnew_bad (q : Qu) (s : Value) (n : Nat) (d : Int) (f : Nat) (w : World) (hs : Ints w s q.s) (hl : q.s.length ≤ 1000) (h : ¬ rightE q = 0 ∨ rightB n d = false ∨ f = 0) :
    Calls Try.prog 67 #[q.v s, .agg #[.int .u64 n, .int .i64 d], .int .u64 f] w fun e w' => e = .returned (.tuple #[.pointer none, .int .i64 (if rightE q = 0 then 2 else rightE q)]) ∧ Fr (fun _ => False) w w' := by
  have HC := Lib.hid (rright_any q s)
  obtain ⟨E, hE⟩ : ∃ E, E = rightE q := ⟨_, rfl⟩
  rw [← hE] at HC h ⊢
  obtain ⟨R, hR⟩ : ∃ R, R = if E = 0 then 2 else E := ⟨_, rfl⟩
  rw [← hR]
  have HR := Lib.hid hR
  have HE := Lib.hid hE
  clear hE hR
  obtain ⟨k, N, o, t, l⟩ := q
  have hs0 := hs
  obtain ⟨A, c, rfl, -⟩ := hs0
  obtain ⟨w1, hw1⟩ : ∃ w1, w1 = (w.alloc (.cells #[.int .i64 k, .int .i64 N, .int .i64 o, .int .i64 t, .slice A l.length c] 24)).alloc (.cells #[.int .u64 n, .int .i64 d] 44) := ⟨_, rfl⟩
  have hf : Fr (fun _ => False) w w1 := by rw [hw1]; exact ((Fr.refl _ w).alloc _).alloc _
  have hb2 : Blk w1 (w.heap.size + 1) 44 #[.int .u64 n, .int .i64 d] := by
    have := Blk.new (w.alloc (.cells #[.int .i64 k, .int .i64 N, .int .i64 o, .int .i64 t, .slice A l.length c] 24)) 44 #[.int .u64 n, .int .i64 d]
    rw [hw1]; simpa using this
  have hb1 : Blk w1 w.heap.size 24 #[.int .i64 k, .int .i64 N, .int .i64 o, .int .i64 t, .slice A l.length c] := by rw [hw1]; exact (Blk.new _ _ _).alloc _
  have HF := Lib.hid (And.intro hf (hs.up hf))
  have HW := Lib.hid hw1
  have HH := Lib.hid h
  simp only [Qu.v] at hl HC ⊢
  clear hf hs hw1 h
  have b0 := hb1.cell 0 rfl
  have b1 := hb1.cell 1 rfl
  have b2 := hb1.cell 2 rfl
  have b3 := hb1.cell 3 rfl
  have b4 := hb1.cell 4 rfl
  go_enter Try.func67, Try.ntmps67
  go_upto_region 1 with (fail)
  rw [← HW.out]
  clear HW
  go_wp2_with fail
  refine (HC.out _ HF.out.2 hl).mono ?_
  rintro e w2 ⟨rfl, hf2⟩
  have hb2' := hb2.fr hf2 (fun h => h)
  clear b0 b1 b2 b3 b4 hb1 hb2
  have c0 := hb2'.cell 0 rfl
  have c1 := hb2'.cell 1 rfl
  go_wp2_with fail
  refine (rright9_any n d _).mono ?_
  rintro e w3 ⟨rfl, hf3⟩
  have hF3 := (HF.out.1.tr hf2).tr hf3
  clear c0 c1 hb2' hf2 hf3
  by_cases hE0 : E = 0
  · subst hE0
    rcases (show rightB n d = false ∨ f = 0 from by rcases HH.out with h | h | h; exact absurd rfl h; exact .inl h; exact .inr h) with h | h
    · rw [h]
      go_wp2_with fail
      go_ret2
      exact ⟨by rw [HR.out]; first | rfl | simp, hF3⟩
    · have hf0 : ((f : Int) == 0) = true := by simp [h]
      cases hb : rightB n d with
      | false =>
        go_wp2_with fail
        go_ret2
        exact ⟨by rw [HR.out]; first | rfl | simp, hF3⟩
      | true =>
        go_wp2_with fail
        go_ret2
        exact ⟨by rw [HR.out]; first | rfl | simp, hF3⟩
  · have hE1 : (E != 0) = true := by simp [hE0]
    go_wp2_with fail
    go_ret2
    exact ⟨by rw [HR.out, if_neg hE0]; rfl, hF3⟩

set_option maxRecDepth 100000 in
set_option maxHeartbeats 4000000 in
theorem rnew_ok (q : Qu) (s : Value) (n : Nat) (d : Int) (f : Nat) (w : World) (hs : Ints w s q.s) (hnil : ∀ c, s = .slice none 0 c → c = 0) (hl : q.s.length ≤ 1000) (h : rightE q = 0) (hb : rightB n d = true) (hn : n < 18446744073709551616) (hf1 : 1 ≤ f) (hf64 : f < 18446744073709551616) :
    Calls Try.prog 67 #[q.v s, .agg #[.int .u64 n, .int .i64 d], .int .u64 f] w fun e w' => ∃ r, e = .returned (.tuple #[.pointer (some ⟨r, 0, none⟩), .int .i64 0]) ∧
      RR w' r (rs0 q n d f) (fun k => w.heap.size ≤ k ∧ k < w'.heap.size) ∧ Fr (fun _ => False) w w' := by
  have HC := Lib.hid (rright_any q s)
  have HCp := Lib.hid (fun w hs => rcopyq_any q s w hs hnil hl)
  have HWf := Lib.hid (rs0_wf (ok_of h) hl hb hn hf1 hf64)
  rw [h] at HC
  have HB := Lib.hid hb
  obtain ⟨k, N, o, t, l⟩ := q
  have hs0 := hs
  obtain ⟨A, c, rfl, -⟩ := hs0
  obtain ⟨w1, hw1⟩ : ∃ w1, w1 = (w.alloc (.cells #[.int .i64 k, .int .i64 N, .int .i64 o, .int .i64 t, .slice A l.length c] 24)).alloc (.cells #[.int .u64 n, .int .i64 d] 44) := ⟨_, rfl⟩
  have hf : Fr (fun _ => False) w w1 := by rw [hw1]; exact ((Fr.refl _ w).alloc _).alloc _
  have hb2 : Blk w1 (w.heap.size + 1) 44 #[.int .u64 n, .int .i64 d] := by
    have := Blk.new (w.alloc (.cells #[.int .i64 k, .int .i64 N, .int .i64 o, .int .i64 t, .slice A l.length c] 24)) 44 #[.int .u64 n, .int .i64 d]
    rw [hw1]; simpa using this
  have hb1 : Blk w1 w.heap.size 24 #[.int .i64 k, .int .i64 N, .int .i64 o, .int .i64 t, .slice A l.length c] := by rw [hw1]; exact (Blk.new _ _ _).alloc _
  have HF := Lib.hid (And.intro hf (hs.up hf))
  have HW := Lib.hid hw1
  simp only [Qu.v] at hl HC HCp ⊢
  clear hf hs hw1 h hb hnil
  have hf0 : ((f : Int) == 0) = false := by simp; omega
  have b0 := hb1.cell 0 rfl
  have b1 := hb1.cell 1 rfl
  have b2 := hb1.cell 2 rfl
  have b3 := hb1.cell 3 rfl
  have b4 := hb1.cell 4 rfl
  go_enter Try.func67, Try.ntmps67
  go_upto_region 1 with (fail)
  rw [← HW.out]
  clear HW
  go_wp2_with fail
  refine (HC.out _ HF.out.2 hl).mono ?_
  rintro e w2 ⟨rfl, hf2⟩
  have hb2' := hb2.fr hf2 (fun h => h)
  have hb1' := hb1.fr hf2 (fun h => h)
  have hs2 := HF.out.2.up hf2
  clear b0 b1 b2 b3 b4 hb1 hb2
  have c0 := hb2'.cell 0 rfl
  have c1 := hb2'.cell 1 rfl
  go_wp2_with fail
  refine (rright9_any n d _).mono ?_
  rintro e w3 ⟨rfl, hf3⟩
  rw [HB.out]
  have hb2 := hb2'.fr hf3 (fun h => h)
  have hb1 := hb1'.fr hf3 (fun h => h)
  have hs3 := hs2.up hf3
  have hF3 := (HF.out.1.tr hf2).tr hf3
  clear c0 c1 hb1' hb2' hf2 hf3 hs2
  have b0 := hb1.cell 0 rfl
  have b1 := hb1.cell 1 rfl
  have b2 := hb1.cell 2 rfl
  have b3 := hb1.cell 3 rfl
  have b4 := hb1.cell 4 rfl
  have c0 := hb2.cell 0 rfl
  have c1 := hb2.cell 1 rfl
  have hd := (Fr.refl (fun _ => False) w3).drew
  go_upto_region 7 with (fail)
  first
    | go_region_held3 (fun wx => wx.cell? ⟨w.heap.size, 0, none⟩ = some (.int .i64 k) ∧ wx.cell? ⟨w.heap.size, 1, none⟩ = some (.int .i64 N) ∧ wx.cell? ⟨w.heap.size, 2, none⟩ = some (.int .i64 o) ∧ wx.cell? ⟨w.heap.size, 3, none⟩ = some (.int .i64 t) ∧ wx.cell? ⟨w.heap.size, 4, none⟩ = some (.slice A l.length c) ∧ wx.cell? ⟨w.heap.size + 1, 0, none⟩ = some (.int .u64 n) ∧ wx.cell? ⟨w.heap.size + 1, 1, none⟩ = some (.int .i64 d)) (first | exact ⟨b0, b1, b2, b3, b4, c0, c1⟩ | exact hS4 | exact ⟨al_cell hS4.1 _, al_cell hS4.2.1 _, al_cell hS4.2.2.1 _, al_cell hS4.2.2.2.1 _, al_cell hS4.2.2.2.2.1 _, al_cell hS4.2.2.2.2.2.1 _, al_cell hS4.2.2.2.2.2.2 _⟩)
      ((go_at_call 45
        refine (HCp.out _ (hs3.up hd)).mono ?_
        rintro e w4 ⟨va, vc, rfl, ho4, hf4⟩
        have hd4 := hd.tr hf4
        have hS4 := And.intro (hd4.cell b0 (fun h => h)) (And.intro (hd4.cell b1 (fun h => h)) (And.intro (hd4.cell b2 (fun h => h)) (And.intro (hd4.cell b3 (fun h => h)) (And.intro (hd4.cell b4 (fun h => h)) (And.intro (hd4.cell c0 (fun h => h)) (hd4.cell c1 (fun h => h))))))))) 
    | fail
  all_goals
    go_wp2_with fail
    go_ret2
    have hz3 := hF3.size
    have hz4 := hd4.size
    have hlt : w.heap.size + 1 < w3.heap.size := hb2.lt
    have hB := Blk.new w4 136 #[.int .i64 k, .int .i64 N, .int .i64 o, .int .i64 t, .slice va l.length vc, .int .u64 n, .int .i64 d, .int .u64 f, .slice none 0 0, .slice none 0 0, .slice none 0 0]
    have hA := (Fr.refl (fun _ => False) w4).alloc (.cells #[.int .i64 k, .int .i64 N, .int .i64 o, .int .i64 t, .slice va l.length vc, .int .u64 n, .int .i64 d, .int .u64 f, .slice none 0 0, .slice none 0 0, .slice none 0 0] 136)
    refine ⟨w4.heap.size, rfl, ⟨.slice va l.length vc, .slice none 0 0, .slice none 0 0, .slice none 0 0, [], [], ?_⟩, (hF3.tr hd4).tr hA⟩
    exact ⟨hB, own_fr (own_base ho4) hA (fun _ _ h => h), World.ownsRow_nil _ _ _ _, World.ownsRow_nil _ _ _ _, World.ownsRow_nil _ _ _ _, rfl, rfl, fun i t v h => by simp [rs0] at h, fun i v s h => by simp [rs0] at h, ⟨by omega, by simp⟩,
      fun k hk => ⟨by have := (ho4.lt k hk).1; have := hd.size; omega, by have := (ho4.lt k hk).2; simp; omega⟩, fun k hk => by simp [Value.ownBlock] at hk, fun k hk => by simp [Value.ownBlock] at hk, fun k hk => by simp [Value.ownBlock] at hk, HWf.out⟩
end Go.Proofs.Ytkpfgoalohbfeaa

/- The document's find, Ready, Chosen, Prefix. -/
namespace Go.Proofs.Ytkpfgoalohbfeaa
open Go.RowKit

def FindR (S : List Vt) (k : Nat) (z : Int) : Prop := (z = -1 ∧ ∀ v ∈ S, v.s ≠ k) ∨ ∃ (i : Nat) (v : Vt), z = (i : Int) ∧ S[i]? = some v ∧ v.s = k
def FindPost (S : List Vt) (k : Nat) (w : World) (e : Ending) (w' : World) : Prop := (∃ z, FindR S k z ∧ e = .returned (.int .i64 z)) ∧ w = w'
def NoSlot (S : List Vt) (j k : Nat) : Prop := ∀ (i : Nat) (v : Vt), i < j → S[i]? = some v → v.s ≠ k
theorem RX.r_lt {w : World} {r : Nat} {st : Rs} {F : Nat → Prop} {sv lv sl ml : Value} {tv svs : List Value} (h : RX w r st F sv lv sl ml tv svs) : st.S.length ≤ maxLen ∧ st.L.length ≤ maxLen ∧ st.M.length ≤ maxLen := by
  have key : ∀ {e size n : Nat} {v : Value} {xs : List Value}, w.ownsRow 0 e size v n xs → n ≤ maxLen := fun h => by
    rcases own_form h with ⟨_, h, _⟩ | ⟨g, cap, cur, _, _, _, h4, h5, _⟩
    · omega
    · omega
  exact ⟨key h.slot, key h.told, key h.mark⟩

set_option maxHeartbeats 2000000 in
theorem rfind_any (r : Nat) (st : Rs) (F : Nat → Prop) (k : Nat) (w : World) (h : RR w r st F) :
    Calls Try.prog 91 #[.pointer (some ⟨r, 0, none⟩), .int .u64 k] w (FindPost st.S k w) := by
  obtain ⟨sv, lv, sl, ml, tv, svs, h⟩ := h
  obtain ⟨sa, sc, rfl⟩ := own_sl4 h.slot
  have c9 : w.cell? ⟨r, 9, none⟩ = some (.slice sa st.S.length sc) := h.blk.cell 9 rfl
  have hl := h.r_lt.1
  unfold maxLen at hl
  have HX := Lib.hid h
  clear h
  go_enter Try.func91, Try.ntmps91
  go_wp2_with fail
  go_loopg [5] st.S.length (fun g x5 wr => ∃ (j : Nat), j + g = st.S.length ∧ x5 = .int .i64 j ∧ NoSlot st.S j k ∧ SameW w wr)
  case atStart => exact ⟨0, by omega, rfl, fun i v hi => by omega, rfl⟩
  case round =>
    obtain ⟨j, hj, rfl, hno, rfl⟩ := hrel
    have HJ := Lib.hid hj
    have HN := Lib.hid hno
    have hj' : j ≤ st.S.length := by omega
    clear hj hno
    by_cases hlt : j < st.S.length
    · obtain ⟨v, hv⟩ : ∃ v, st.S[j]? = some v := ⟨_, List.getElem?_eq_getElem hlt⟩
      obtain ⟨g, lc, s, e1, q0, -, -, -, -, -⟩ := HX.out.slot_at hv
      injection e1 with e1 _ e2
      subst e1 e2
      have HV := Lib.hid hv
      clear hv
      by_cases hk : v.s = k
      · have hk' : ((v.s : Int) == (k : Int)) = true := by simp [hk]
        have HK := Lib.hid hk
        clear hk
        go_wp2_with fail
        go_ret
        exact ⟨⟨_, .inr ⟨j, v, rfl, HV.out, HK.out⟩, rfl⟩, rfl⟩
      · have hk' : ((v.s : Int) == (k : Int)) = false := by simp; omega
        have HK := Lib.hid hk
        clear hk
        go_wp2_with fail
        go_roundg (st.S.length - (j + 1))
        case measure => have := HJ.out; omega
        case rel =>
          refine ⟨j + 1, by have := HJ.out; omega, by go_num, fun i u hi hu => ?_, rfl⟩
          by_cases hij : i = j
          · subst hij
            rw [HV.out] at hu
            cases hu
            exact HK.out
          · exact HN.out i u (by omega) hu
    · obtain rfl : j = st.S.length := by omega
      go_wp2_with fail
      go_ret
      refine ⟨⟨-1, .inl ⟨rfl, fun v hv => ?_⟩, rfl⟩, rfl⟩
      obtain ⟨i, hi⟩ := List.getElem?_of_mem hv
      exact HN.out i v (List.getElem?_eq_some_iff.1 hi).1 hi

/-! ### Ready -/
theorem add_bit0 (X n : Nat) (h : X.testBit n = false) : X + 2 ^ n = X ||| 2 ^ n := by
  have hb : X % 2 ^ (n + 1) < 2 ^ n := by
    rw [Nat.testBit_eq_decide_div_mod_eq, decide_eq_false_iff_not] at h
    have h1 := Nat.div_add_mod X (2 ^ n)
    have h2 : X % 2 ^ n < 2 ^ n := Nat.mod_lt _ (Nat.two_pow_pos n)
    have h3 : X / 2 ^ n = 2 * (X / 2 ^ n / 2) := by omega
    have h4 : X = 2 ^ (n + 1) * (X / 2 ^ n / 2) + X % 2 ^ n := by
      rw [Nat.pow_succ, Nat.mul_assoc, ← h3]; exact h1.symm
    rw [h4, Nat.mul_add_mod, Nat.mod_eq_of_lt (Nat.lt_of_lt_of_le h2 (Nat.pow_le_pow_right (by omega) (by omega)))]
    exact h2
  have hX := Nat.div_add_mod X (2 ^ (n + 1))
  generalize X / 2 ^ (n + 1) = a at hX
  generalize X % 2 ^ (n + 1) = b at hX hb
  have hb1 : b < 2 ^ (n + 1) := by rw [Nat.pow_succ]; omega
  have hb2 : 2 ^ n + b < 2 ^ (n + 1) := by rw [Nat.pow_succ]; omega
  rw [← hX, Nat.add_assoc, Nat.add_comm b, Nat.two_pow_add_eq_or_of_lt hb2, Nat.two_pow_add_eq_or_of_lt hb1]
  have := Nat.two_pow_add_eq_or_of_lt hb 1
  rw [Nat.mul_one] at this
  rw [this, Nat.or_assoc, Nat.or_comm b]
theorem add_bit (X x : Nat) (hX : X < 4096) (hx : x < 12) (hb : X.testBit x = false) : ((X : Int) + 2 ^ x) % 4294967296 = ((X ||| 2 ^ x : Nat) : Int) := by
  have h1 := or_lt X x hX hx
  rw [← add_bit0 X x hb] at h1 ⊢
  have : ((2 : Int) ^ x) = ((2 ^ x : Nat) : Int) := by simp
  rw [this]
  generalize 2 ^ x = P at *
  omega
def toldBit (L : List (Nat × List Vt)) (i : Nat) : Bool := L.any fun t => t.1 == i
theorem toldBit_take {L : List (Nat × List Vt)} {j : Nat} {t : Nat × List Vt} (h : L[j]? = some t) (i : Nat) : toldBit (L.take (j + 1)) i = (toldBit (L.take j) i || t.1 == i) := by
  unfold toldBit
  rw [List.take_add_one, h, List.any_append]
  simp
def rreadyB (st : Rs) : Bool := isQ st.q false (toldBit st.L)
theorem told_new {st : Rs} (h : RWf st) {j : Nat} {t : Nat × List Vt} (ht : st.L[j]? = some t) : toldBit (st.L.take j) t.1 = false := by
  unfold toldBit
  rw [List.any_eq_false]
  intro u hu
  obtain ⟨i, hi⟩ := List.getElem?_of_mem hu
  rw [List.getElem?_take] at hi
  split at hi
  · rename_i hij
    have hp := List.pairwise_iff_getElem.1 h.dist
    obtain ⟨hil, hie⟩ := List.getElem?_eq_some_iff.1 hi
    obtain ⟨hjl, hje⟩ := List.getElem?_eq_some_iff.1 ht
    have := hp i j hil hjl hij
    rw [hie, hje] at this
    simpa using this
  · cases hi
set_option maxRecDepth 100000 in
set_option maxHeartbeats 2000000 in
theorem rready_any (r : Nat) (st : Rs) (F : Nat → Prop) (w : World) (h : RR w r st F) :
    Calls Try.prog 85 #[.pointer (some ⟨r, 0, none⟩)] w fun e w' => e = .returned (.bool (rreadyB st)) ∧ Fr (fun _ => False) w w' := by
  have hwf := h.wf
  obtain ⟨sv, lv, sl, ml, tv, svs, h⟩ := h
  obtain ⟨sa, sc, rfl⟩ := own_sl4 h.site
  obtain ⟨la, lc, rfl⟩ := own_sl4 h.told
  have HI := Lib.hid (fun X hX => ris_any st.q false (.slice sa st.q.s.length sc) X hX w (ints_own h.site) hwf.ql)
  have c0 : w.cell? ⟨r, 0, none⟩ = some (.int .i64 st.q.k) := h.blk.cell 0 rfl
  have c1 : w.cell? ⟨r, 1, none⟩ = some (.int .i64 st.q.n) := h.blk.cell 1 rfl
  have c2 : w.cell? ⟨r, 2, none⟩ = some (.int .i64 st.q.o) := h.blk.cell 2 rfl
  have c3 : w.cell? ⟨r, 3, none⟩ = some (.int .i64 st.q.t) := h.blk.cell 3 rfl
  have c4 : w.cell? ⟨r, 4, none⟩ = some (.slice sa st.q.s.length sc) := h.blk.cell 4 rfl
  have c8 : w.cell? ⟨r, 8, none⟩ = some (.slice la st.L.length lc) := h.blk.cell 8 rfl
  have hl := h.r_lt.2.1
  have hn12 := hwf.ok.n
  unfold maxLen at hl
  have HX := Lib.hid h
  have HW := Lib.hid hwf
  have HN := Lib.hid hn12
  clear h hwf hn12
  go_enter Try.func85, Try.ntmps85
  go_wp2_with fail
  go_loopg [3, 4] st.L.length (fun g x3 x4 wr => ∃ (j X : Nat), j + g = st.L.length ∧ x4 = .int .i64 j ∧ x3 = .int .u32 X ∧ X < 4096 ∧ (∀ i, X.testBit i = toldBit (st.L.take j) i) ∧ SameW w wr)
  case atStart => exact ⟨0, 0, by omega, rfl, rfl, by omega, fun i => by simp [toldBit], rfl⟩
  case round =>
    obtain ⟨j, X, hj, rfl, rfl, hX, hbit, rfl⟩ := hrel
    have HJ := Lib.hid hj
    have HB := Lib.hid hbit
    have hj' : j ≤ st.L.length := by omega
    clear hj hbit
    by_cases hlt : j < st.L.length
    · obtain ⟨t, ht⟩ : ∃ t, st.L[j]? = some t := ⟨_, List.getElem?_eq_getElem hlt⟩
      obtain ⟨g, lc', v, e1, q0, -, -⟩ := HX.out.told_at ht
      injection e1 with e1 _ e2
      subst e1 e2
      have ht12 : t.1 < 12 := by have := HW.out.node t (List.mem_of_getElem? ht); have := HN.out; omega
      have ht0 : (0 : Int) ≤ (t.1 : Int) := by omega
      have hnb : X.testBit t.1 = false := by rw [HB.out]; exact told_new HW.out ht
      have HNB := Lib.hid hnb
      have HT := Lib.hid ht
      obtain ⟨Y, hY⟩ : ∃ Y, Y = X ||| 2 ^ t.1 := ⟨_, rfl⟩
      have hY12 : Y < 4096 := by rw [hY]; exact or_lt X t.1 hX ht12
      have hadd : ((X : Int) + 2 ^ t.1) % 4294967296 = (Y : Int) := by rw [hY]; exact add_bit X t.1 hX ht12 hnb
      have HA := Lib.hid hadd
      have HY := Lib.hid hY
      clear hnb ht hY hadd
      go_wp2_with fail
      rw [HA.out]
      go_roundg (st.L.length - (j + 1))
      case measure => have := HJ.out; omega
      case rel =>
        refine ⟨j + 1, Y, by have := HJ.out; omega, by go_num, rfl, hY12, fun i => ?_, rfl⟩
        rw [HY.out, Nat.testBit_or, HB.out, toldBit_take HT.out, Nat.testBit_two_pow]
        rfl
    · obtain rfl : j = st.L.length := by omega
      go_wp2_with fail
      refine (HI.out X (by omega)).mono ?_
      rintro e w1 ⟨rfl, hf1⟩
      have he : isQ st.q false X.testBit = rreadyB st := by
        unfold rreadyB
        refine isQ_congr fun i _ => ?_
        rw [HB.out, List.take_length]
      rw [he]
      clear he
      go_wp2_with fail
      go_ret
      exact ⟨rfl, hf1⟩

/-! ### Chosen -/
def markBit (M : List (Nat × Nat)) (k i : Nat) : Bool := M.any fun m => m.2 == k && m.1 == i
theorem markBit_take {M : List (Nat × Nat)} {j k : Nat} {m : Nat × Nat} (h : M[j]? = some m) (i : Nat) : markBit (M.take (j + 1)) k i = (markBit (M.take j) k i || (m.2 == k && m.1 == i)) := by
  unfold markBit
  rw [List.take_add_one, h, List.any_append]
  simp
def findV (S : List Vt) (k : Nat) : Option Vt := S.find? fun v => v.s == k
def rchB (st : Rs) (k : Nat) : Option (List UInt8) := (findV st.S k).bind fun v => if isQ st.q true (markBit st.M k) then some v.v else none
theorem FindR.is {st : Rs} (hw : RWf st) {k : Nat} {z : Int} (h : FindR st.S k z) : (z = -1 ∧ findV st.S k = none) ∨ ∃ (i : Nat) (v : Vt), z = (i : Int) ∧ st.S[i]? = some v ∧ v.s = k ∧ findV st.S k = some v := by
  rcases h with ⟨h1, h2⟩ | ⟨i, v, h1, h2, h3⟩
  · refine .inl ⟨h1, ?_⟩
    unfold findV
    rw [List.find?_eq_none]
    intro v hv
    simpa using h2 v hv
  · refine .inr ⟨i, v, h1, h2, h3, ?_⟩
    unfold findV
    cases hf : st.S.find? (fun v => v.s == k) with
    | none =>
      rw [List.find?_eq_none] at hf
      exact absurd h3 (by simpa using hf v (List.mem_of_getElem? h2))
    | some u =>
      have hu := List.find?_some hf
      have hum := List.mem_of_find?_eq_some hf
      obtain ⟨i', hi'⟩ := List.getElem?_of_mem hum
      have hp := List.pairwise_iff_getElem.1 hw.sd
      obtain ⟨hl1, he1⟩ := List.getElem?_eq_some_iff.1 hi'
      obtain ⟨hl2, he2⟩ := List.getElem?_eq_some_iff.1 h2
      have hus : u.s = k := by simpa using hu
      rcases Nat.lt_trichotomy i i' with h | h | h
      · have := hp i i' hl2 hl1 h
        rw [he1, he2] at this
        exact absurd (h3.trans hus.symm) this
      · subst h
        rw [h2] at hi'
        exact hi'.symm
      · have := hp i' i hl1 hl2 h
        rw [he1, he2] at this
        exact absurd (hus.trans h3.symm) this
def ResR (w w' : World) (x : Option (List UInt8)) (e : Ending) : Prop :=
  ∃ va vc, e = .returned (.tuple #[.slice va (x.getD []).length vc, .bool x.isSome]) ∧ Byt w' (.slice va (x.getD []).length vc) (x.getD []) ∧ Fr (fun _ => False) w w'
set_option maxRecDepth 100000 in
set_option maxHeartbeats 4000000 in
theorem rchosen_any (r : Nat) (st : Rs) (F : Nat → Prop) (k : Nat) (w : World) (h : RR w r st F) :
    Calls Try.prog 89 #[.pointer (some ⟨r, 0, none⟩), .int .u64 k] w fun e w' => ResR w w' (rchB st k) e := by
  have hwf := h.wf
  have HF := Lib.hid (rfind_any r st F k w h)
  obtain ⟨sv, lv, sl, ml, tv, svs, h⟩ := h
  obtain ⟨sa, sc, rfl⟩ := own_sl4 h.site
  obtain ⟨ma, mc, rfl⟩ := own_sl4 h.mark
  obtain ⟨pa, pc, rfl⟩ := own_sl4 h.slot
  have HI := Lib.hid (fun X hX => ris_any st.q true (.slice sa st.q.s.length sc) X hX w (ints_own h.site) hwf.ql)
  have hl := h.r_lt
  have hn12 := hwf.ok.n
  unfold maxLen at hl
  obtain ⟨hl1, hl2, hl3⟩ := hl
  have HX := Lib.hid h
  have HW := Lib.hid hwf
  have HN := Lib.hid hn12
  have c10 : w.cell? ⟨r, 10, none⟩ = some (.slice ma st.M.length mc) := h.blk.cell 10 rfl
  clear h hwf hn12
  go_enter Try.func89, Try.ntmps89
  go_wp2_with fail
  go_loopg [6, 7] st.M.length (fun g x6 x7 wr => ∃ (j X : Nat), j + g = st.M.length ∧ x7 = .int .i64 j ∧ x6 = .int .u32 X ∧ X < 4096 ∧ (∀ i, X.testBit i = markBit (st.M.take j) k i) ∧ SameW w wr)
  case atStart => exact ⟨0, 0, by omega, rfl, rfl, by omega, fun i => by simp [markBit], rfl⟩
  case round =>
    obtain ⟨j, X, hj, rfl, rfl, hX, hbit, rfl⟩ := hrel
    have HJ := Lib.hid hj
    have HB := Lib.hid hbit
    have hj' : j ≤ st.M.length := by omega
    clear hj hbit
    by_cases hlt : j < st.M.length
    · obtain ⟨m, hm⟩ : ∃ m, st.M[j]? = some m := ⟨_, List.getElem?_eq_getElem hlt⟩
      obtain ⟨g, lc', e1, q0, q1⟩ := HX.out.mark_at hm
      injection e1 with e1 _ e2
      subst e1 e2
      have hm12 : m.1 < 12 := by have := (HW.out.mks m (List.mem_of_getElem? hm)).1; have := HN.out; omega
      have hm0 : (0 : Int) ≤ (m.1 : Int) := by omega
      have HM := Lib.hid hm
      clear hm
      by_cases hk : m.2 = k
      · have hk' : ((m.2 : Int) == (k : Int)) = true := by simp [hk]
        have HK := Lib.hid hk
        obtain ⟨Y, hY⟩ : ∃ Y, Y = X ||| 2 ^ m.1 := ⟨_, rfl⟩
        have hY12 : Y < 4096 := by rw [hY]; exact or_lt X m.1 hX hm12
        have HY := Lib.hid hY
        clear hk hY
        go_wp2_with fail
        rw [or_bit X m.1 hX hm12, ← HY.out]
        go_roundg (st.M.length - (j + 1))
        case measure => have := HJ.out; omega
        case rel =>
          refine ⟨j + 1, Y, by have := HJ.out; omega, by go_num, rfl, hY12, fun i => ?_, rfl⟩
          rw [HY.out, Nat.testBit_or, HB.out, markBit_take HM.out, Nat.testBit_two_pow, HK.out]
          simp
          rfl
      · have hk' : ((m.2 : Int) == (k : Int)) = false := by simp; omega
        have HK := Lib.hid hk
        clear hk
        go_wp2_with fail
        go_roundg (st.M.length - (j + 1))
        case measure => have := HJ.out; omega
        case rel =>
          refine ⟨j + 1, X, by have := HJ.out; omega, by go_num, rfl, hX, fun i => ?_, rfl⟩
          have : (m.2 == k) = false := by simpa using HK.out
          rw [HB.out, markBit_take HM.out, this]
          simp
    · obtain rfl : j = st.M.length := by omega
      go_wp2_with fail
      refine HF.out.mono ?_
      rintro e w1 ⟨⟨z, hz, rfl⟩, rfl⟩
      have hz' := hz.is HW.out
      have HZ := Lib.hid hz'
      clear hz hz' c10
      have c0 : w.cell? ⟨r, 0, none⟩ = some (.int .i64 st.q.k) := HX.out.blk.cell 0 rfl
      have c1 : w.cell? ⟨r, 1, none⟩ = some (.int .i64 st.q.n) := HX.out.blk.cell 1 rfl
      have c2 : w.cell? ⟨r, 2, none⟩ = some (.int .i64 st.q.o) := HX.out.blk.cell 2 rfl
      have c3 : w.cell? ⟨r, 3, none⟩ = some (.int .i64 st.q.t) := HX.out.blk.cell 3 rfl
      have c4 : w.cell? ⟨r, 4, none⟩ = some (.slice sa st.q.s.length sc) := HX.out.blk.cell 4 rfl
      go_wp2_with fail
      refine (HI.out X (by omega)).mono ?_
      rintro e w1 ⟨rfl, hf1⟩
      have he : isQ st.q true X.testBit = isQ st.q true (markBit st.M k) := isQ_congr fun i _ => by rw [HB.out, List.take_length]
      rw [he]
      clear he c0 c1 c2 c3 c4
      have hcb : rchB st k = (findV st.S k).bind fun v => if isQ st.q true (markBit st.M k) then some v.v else none := rfl
      have HC := Lib.hid hcb
      clear hcb
      rcases HZ.out with ⟨rfl, hf⟩ | ⟨i, v, rfl, hv, hvk, hf⟩
      · have hr : rchB st k = none := by rw [HC.out, hf]; rfl
        have HRr := Lib.hid hr
        clear hr hf
        go_wp2_with fail
        go_ret2
        rw [HRr.out]
        exact ⟨none, 0, rfl, byt_nil _, hf1⟩
      · obtain ⟨g, lc', s, e1, -, -, -, q3, hby, -⟩ := HX.out.slot_at hv
        injection e1 with e1 _ e2
        subst e1 e2
        have c9 : w1.cell? ⟨r, 9, none⟩ = some (.slice (some ⟨g, 0, none⟩) st.S.length pc) := hf1.cell (HX.out.blk.cell 9 rfl) (fun h => h)
        have p3 := hf1.cell q3 (fun h => h)
        have hby1 := hby.fr hf1 (fun _ _ h => h)
        obtain ⟨va, vc, rfl, -, -⟩ := hby
        have hil : (i : Int) < (st.S.length : Int) := by have := (List.getElem?_eq_some_iff.1 hv).1; omega
        have hi0 : ¬ (i : Int) < 0 := by omega
        have hi0' : (0 : Int) ≤ (i : Int) := by omega
        cases hq : isQ st.q true (markBit st.M k) with
        | false =>
          have hr : rchB st k = none := by rw [HC.out, hf, hq]; rfl
          have HRr := Lib.hid hr
          clear hr hf hq hv hvk q3
          go_wp2_with fail
          go_ret2
          rw [HRr.out]
          exact ⟨none, 0, rfl, byt_nil _, hf1⟩
        | true =>
          have hr : rchB st k = some v.v := by rw [HC.out, hf, hq]; rfl
          have HRr := Lib.hid hr
          clear hr hf hq hv hvk q3
          go_wp2_with fail
          go_ret2
          rw [HRr.out]
          exact ⟨va, vc, rfl, hby1, hf1⟩
end Go.Proofs.Ytkpfgoalohbfeaa

/- The document's Prefix, Top, Accepted. -/
namespace Go.Proofs.Ytkpfgoalohbfeaa
open Go.RowKit

/-! ### Prefix -/
def RPreAt (st : Rs) (a : Nat) : Prop := st.f ≤ a ∧ (∀ j, st.f ≤ j → j < a → (rchB st j).isSome = true) ∧ (rchB st a).isSome = false
theorem nodup_le : ∀ (l1 l2 : List Nat), l1.Nodup → (∀ x ∈ l1, x ∈ l2) → l1.length ≤ l2.length
  | [], l2, _, _ => by simp
  | x :: l1, l2, hn, hs => by
    rw [List.nodup_cons] at hn
    have hx := hs x (by simp)
    have h := nodup_le l1 (l2.erase x) hn.2 (fun y hy => by
      have hyx : y ≠ x := fun e => hn.1 (e ▸ hy)
      exact (List.mem_erase_of_ne hyx).2 (hs y (by simp [hy])))
    rw [List.length_erase_of_mem hx] at h
    have := List.length_pos_of_mem hx
    simp only [List.length_cons]
    omega
theorem rch_slot {st : Rs} {j : Nat} (h : (rchB st j).isSome = true) : ∃ v ∈ st.S, v.s = j := by
  unfold rchB at h
  cases hf : findV st.S j with
  | none => rw [hf] at h; simp at h
  | some v =>
    refine ⟨v, List.mem_of_find?_eq_some hf, ?_⟩
    have := List.find?_some hf
    simpa using this
theorem rch_many {st : Rs} {k : Nat} (h : ∀ j, st.f ≤ j → j < st.f + k → (rchB st j).isSome = true) : k ≤ st.S.length := by
  have := nodup_le (List.range' st.f k) (st.S.map (·.s)) List.nodup_range' (fun x hx => by
    rw [List.mem_range'_1] at hx
    obtain ⟨v, hv, he⟩ := rch_slot (h x hx.1 hx.2)
    exact List.mem_map.2 ⟨v, hv, he⟩)
  simpa using this
theorem rch_big {st : Rs} (hw : RWf st) {j : Nat} (h : j < st.f ∨ 18446744073709551616 ≤ j) : (rchB st j).isSome = false := by
  cases hc : (rchB st j).isSome with
  | false => rfl
  | true =>
    obtain ⟨v, hv, he⟩ := rch_slot hc
    have := hw.sl v hv
    omega
/-! ### Top -/
def RTop (L : List (Nat × List Vt)) (T : Nat) : Prop := (∀ t ∈ L, ∀ v ∈ t.2, v.s ≤ T) ∧ (T = 0 ∨ ∃ t ∈ L, ∃ v ∈ t.2, v.s = T)
/-- .. of the first j, and of the next one's first k. -/
def RTopTo (L : List (Nat × List Vt)) (j k T : Nat) : Prop :=
  (∀ (i : Nat) (t : Nat × List Vt), L[i]? = some t → ∀ (x : Nat) (v : Vt), t.2[x]? = some v → i < j ∨ (i = j ∧ x < k) → v.s ≤ T) ∧ (T = 0 ∨ ∃ t ∈ L, ∃ v ∈ t.2, v.s = T)
theorem RTopTo.row {L : List (Nat × List Vt)} {j T : Nat} {t : Nat × List Vt} (h : RTopTo L j t.2.length T) (ht : L[j]? = some t) : RTopTo L (j + 1) 0 T := by
  refine ⟨fun i u hu x v hv hi => ?_, h.2⟩
  by_cases hij : i = j
  · subst hij
    rw [ht] at hu
    cases hu
    exact h.1 i t ht x v hv (.inr ⟨rfl, (List.getElem?_eq_some_iff.1 hv).1⟩)
  · exact h.1 i u hu x v hv (.inl (by omega))
theorem RTopTo.next {L : List (Nat × List Vt)} {j k T : Nat} {t : Nat × List Vt} {v : Vt} (h : RTopTo L j k T) (ht : L[j]? = some t) (hv : t.2[k]? = some v) : RTopTo L j (k + 1) (if T < v.s then v.s else T) := by
  refine ⟨fun i u hu x y hy hi => ?_, ?_⟩
  · by_cases hx : i = j ∧ x = k
    · obtain ⟨rfl, rfl⟩ := hx
      rw [ht] at hu
      cases hu
      rw [hv] at hy
      cases hy
      split <;> omega
    · have := h.1 i u hu x y hy (by omega)
      split <;> omega
  · split
    · exact .inr ⟨t, List.mem_of_getElem? ht, v, List.mem_of_getElem? hv, rfl⟩
    · exact h.2
theorem RTopTo.all {L : List (Nat × List Vt)} {T : Nat} (h : RTopTo L L.length 0 T) : RTop L T := by
  refine ⟨fun t ht v hv => ?_, h.2⟩
  obtain ⟨i, hi⟩ := List.getElem?_of_mem ht
  obtain ⟨x, hx⟩ := List.getElem?_of_mem hv
  exact h.1 i t hi x v hx (.inl (List.getElem?_eq_some_iff.1 hi).1)
/-! ### Accepted -/
section
variable {w w' : World} {r : Nat} {st : Rs} {F F' Y : Nat → Prop} {sv lv sl ml lv' sl' ml' v' : Value} {tv svs : List Value}
theorem RX.keepV (h : RX w r st F sv lv sl ml tv svs) (hf : Fr Y w w') (hY : ∀ k, Y k → Off F r lv sl ml k) (hO : ∀ k, Off F' r lv' sl' ml' k → Off F r lv sl ml k ∨ w.heap.size ≤ k) :
    (∀ (i : Nat) (t : Nat × List Vt) (v : Value), st.L[i]? = some t → tv[i]? = some v → VtL w' v t.2 (Off F' r lv' sl' ml')) ∧
    (∀ (i : Nat) (v : Vt) (s : Value), st.S[i]? = some v → svs[i]? = some s → Byt w' s v.v ∧ ∀ k, s.ownBlock = some k → v.v ≠ [] → ¬ Off F' r lv' sl' ml' k) := by
  refine ⟨fun i t v h1 h2 => ?_, fun i v s h1 h2 => ?_⟩
  · exact ((h.tvo i t v h1 h2).lt.up hf (fun k hk => .inl (hY k hk))).mono hO
  · obtain ⟨h3, h4⟩ := h.svo i v s h1 h2
    refine ⟨h3.fr' hf (fun k hk hn hy => h4 k hk hn (hY k hy)), fun k hk hn ho => ?_⟩
    rcases hO k ho with h5 | h5
    · exact h4 k hk hn h5
    · obtain ⟨k', hk', hlt⟩ := h3.lt hn
      rw [hk] at hk'
      injection hk' with hk'
      omega
theorem app_fr {base e size n m : Nat} {v : Value} {xs news : List Value} (ha : Appended base e size w v n m xs news v' w') (i : Nat) (u : Value) : Fr (fun k => k = r ∨ v.ownBlock = some k) w (w'.setCell ⟨r, i, none⟩ u) :=
  ((Fr.refl _ w).grown ha.2.1 (fun _ hk _ => .inr hk)).setCell (p := ⟨r, i, none⟩) (fun _ => .inl rfl) u
theorem app_own {base e size n m : Nat} {v : Value} {xs news : List Value} (ha : Appended base e size w v n m xs news v' w') : ∀ k, v'.ownBlock = some k → v.ownBlock = some k ∨ (w.heap.size ≤ k ∧ k < w'.heap.size) := fun k hk => by
  rcases ha.2.2 with h | h
  · rw [h] at hk; exact .inl hk
  · have := (ha.1.lt k hk).2
    rw [h] at hk
    injection hk with hk
    exact .inr ⟨by omega, this⟩
/-- More blocks. -/
def More (F : Nat → Prop) (w w' : World) (k : Nat) : Prop := F k ∨ (w.heap.size ≤ k ∧ k < w'.heap.size)
theorem RX.putMark (h : RX w r st F sv lv sl ml tv svs) (m : Nat × Nat) (hm : m.1 < st.q.n.toNat ∧ m.2 < 18446744073709551616) (ha : Appended 0 150 2 w ml st.M.length 1 (flat2 (mrk st.M)) [.int .i64 (m.1 : Int), .int .u64 (m.2 : Int)] v' w') :
    RX (w'.setCell ⟨r, 10, none⟩ v') r { st with M := st.M ++ [m] } (More F w w') sv lv sl v' tv svs := by
  have hf := app_fr (r := r) ha 10 v'
  have ho := app_own ha
  have hr1 := h.blk.lt
  obtain ⟨k1, k2⟩ := h.keepV (F' := More F w w') (lv' := lv) (sl' := sl) (ml' := v') hf (fun k hk => by rcases hk with hk | hk; exact .inr (.inl hk); exact .inr (.inr (.inr (.inr hk)))) (fun k hk => by
    rcases hk with hk | hk | hk | hk | hk
    · exact .inl (.inl fun hF => hk (.inl hF))
    · exact .inl (.inr (.inl hk))
    · exact .inl (.inr (.inr (.inl hk)))
    · exact .inl (.inr (.inr (.inr (.inl hk))))
    · rcases ho k hk with h1 | h1
      · exact .inl (.inr (.inr (.inr (.inr h1))))
      · exact .inr h1.1)
  have hB : Blk w' r 136 _ := ha.blk h.blk (fun e => own_blk_ne h.mark h.blk (by decide) r e rfl)
  have hrow := ha.1
  refine ⟨by simpa using hB.set_ 10 v', own_fr h.site hf (fun k hk => ?_), own_fr h.told hf (fun k hk => ?_), own_fr h.slot hf (fun k hk => ?_), ?_, h.tlen, h.slen, k1, k2, .inl h.rF, fun k hk => .inl (h.svF k hk), fun k hk => .inl (h.lvF k hk), fun k hk => .inl (h.slF k hk), fun k hk => ?_, ?_⟩
  · rintro (e | e)
    · exact own_blk_ne h.site h.blk (by decide) k hk e
    · exact own_own_ne h.site h.mark (by decide) k k hk e rfl
  · rintro (e | e)
    · exact own_blk_ne h.told h.blk (by decide) k hk e
    · exact own_own_ne h.told h.mark (by decide) k k hk e rfl
  · rintro (e | e)
    · exact own_blk_ne h.slot h.blk (by decide) k hk e
    · exact own_own_ne h.slot h.mark (by decide) k k hk e rfl
  · show World.ownsRow _ 0 150 2 v' (st.M ++ [m]).length (flat2 (mrk (st.M ++ [m])))
    rw [List.length_append, List.length_singleton, show mrk (st.M ++ [m]) = mrk st.M ++ [(.int .i64 (m.1 : Int), .int .u64 (m.2 : Int))] by simp [mrk], flat2_append]
    refine own_fr hrow (Fr.set1 w' r 10 v') (fun k hk e => ?_)
    exact own_blk_ne hrow hB (by decide) k hk e
  · rcases ho k hk with h1 | h1
    · exact .inl (h.mlF k h1)
    · exact .inr h1
  · have hw := h.wf
    exact ⟨hw.ok, hw.ql, hw.rb, hw.n64, hw.f1, hw.f64, hw.node, hw.dist, hw.vot, hw.sl, hw.sd, fun x hx => by
      rcases List.mem_append.1 hx with hx | hx
      · exact hw.mks x hx
      · have : x = m := by simpa using hx
        rw [this]; exact hm⟩
end
end Go.Proofs.Ytkpfgoalohbfeaa

/- The document's Accepted. -/
namespace Go.Proofs.Ytkpfgoalohbfeaa
open Go.RowKit

theorem mkinfo : (Try.prog.info? 150).map (fun i => (i.zero, i.size, i.bytes)) = some (some (.agg #[.int .i64 0, .int .u64 0]), 2, 16) := by kernel_rfl
def raccE (st : Rs) (x : Int) (k : Nat) : Int := if inN st.q x then (if (findV st.S k).isSome then 0 else 4) else 2
def raccS (st : Rs) (x : Int) (k : Nat) : Rs := if raccE st x k = 0 then { st with M := st.M ++ [(x.toNat, k)] } else st
theorem Nx.more {F : Nat → Prop} {w w1 w2 w' : World} (h1 : w.heap.size ≤ w1.heap.size) (h2 : w2.heap.size ≤ w'.heap.size) : Nx F (More F w1 w2) w w' := fun j hj => by
  rcases hj with h | h
  · exact .inl h
  · exact .inr ⟨by omega, by omega⟩
set_option maxRecDepth 100000 in
set_option maxHeartbeats 4000000 in
theorem racc_any (r : Nat) (st : Rs) (F : Nat → Prop) (x : Int) (k : Nat) (hk : k < 18446744073709551616) (w : World) (h : RR w r st F) (hM : st.M.length ≤ 1000000) :
    Calls Try.prog 88 #[.pointer (some ⟨r, 0, none⟩), .int .i64 x, .int .u64 k] w fun e w' => e = .returned (.int .i64 (raccE st x k)) ∧ ∃ F', RR w' r (raccS st x k) F' ∧ Nx F F' w w' ∧ Fr F w w' := by
  obtain ⟨i0, hi0, hz0, hz1, hz2⟩ := info_parts mkinfo
  have hwf := h.wf
  have HF := Lib.hid (rfind_any r st F k w h)
  have HR := Lib.hid h
  obtain ⟨sv, lv, sl, ml, tv, svs, h⟩ := h
  have c1 : w.cell? ⟨r, 1, none⟩ = some (.int .i64 st.q.n) := h.blk.cell 1 rfl
  have HX := Lib.hid h
  have HW := Lib.hid hwf
  have hin : inN st.q x = decide (0 ≤ x ∧ x < st.q.n) := rfl
  obtain ⟨E, hE⟩ : ∃ E, E = raccE st x k := ⟨_, rfl⟩
  obtain ⟨S', hS⟩ : ∃ S', S' = raccS st x k := ⟨_, rfl⟩
  rw [← hE, ← hS]
  have HE := Lib.hid hE
  have HS := Lib.hid hS
  have HIn := Lib.hid hin
  clear h hwf hE hS hin
  go_enter Try.func88, Try.ntmps88
  go_wp2_with fail
  refine HF.out.mono ?_
  rintro e w1 ⟨⟨z, hz, rfl⟩, rfl⟩
  have hz' := hz.is HW.out
  have HZ := Lib.hid hz'
  clear hz hz'
  rcases (by omega : x < 0 ∨ (0 ≤ x ∧ st.q.n ≤ x) ∨ (0 ≤ x ∧ x < st.q.n)) with hx | hx | hx
  · have he : E = 2 := by rw [HE.out]; unfold raccE; rw [HIn.out, decide_eq_false (by omega)]; rfl
    have hs : S' = st := by rw [HS.out]; unfold raccS; rw [if_neg (by rw [← HE.out, he]; omega)]
    have HEE := Lib.hid (And.intro he hs)
    clear he hs
    go_wp2_with fail
    go_ret
    exact ⟨by rw [HEE.out.1]; rfl, F, by rw [HEE.out.2]; exact HR.out, Nx.refl _ _ _, Fr.refl _ _⟩
  · obtain ⟨hx0, hx1⟩ := hx
    have he : E = 2 := by rw [HE.out]; unfold raccE; rw [HIn.out, decide_eq_false (by omega)]; rfl
    have hs : S' = st := by rw [HS.out]; unfold raccS; rw [if_neg (by rw [← HE.out, he]; omega)]
    have HEE := Lib.hid (And.intro he hs)
    clear he hs
    have hx0' : ¬ x < 0 := by omega
    go_wp2_with fail
    go_ret
    exact ⟨by rw [HEE.out.1]; rfl, F, by rw [HEE.out.2]; exact HR.out, Nx.refl _ _ _, Fr.refl _ _⟩
  · obtain ⟨hx0, hx1⟩ := hx
    have hin : inN st.q x = true := by rw [HIn.out]; exact decide_eq_true ⟨hx0, hx1⟩
    have hx0' : ¬ x < 0 := by omega
    have hx1' : ¬ st.q.n ≤ x := by omega
    rcases HZ.out with ⟨rfl, hf⟩ | ⟨i, v, rfl, hv, hvk, hf⟩
    · have he : E = 4 := by rw [HE.out]; unfold raccE; rw [hin, hf]; rfl
      have hs : S' = st := by rw [HS.out]; unfold raccS; rw [if_neg (by rw [← HE.out, he]; omega)]
      have HEE := Lib.hid (And.intro he hs)
      clear he hs hf hin
      go_wp2_with fail
      go_ret
      exact ⟨by rw [HEE.out.1]; rfl, F, by rw [HEE.out.2]; exact HR.out, Nx.refl _ _ _, Fr.refl _ _⟩
    · have he : E = 0 := by rw [HE.out]; unfold raccE; rw [hin, hf]; rfl
      have hs : S' = { st with M := st.M ++ [(x.toNat, k)] } := by rw [HS.out]; unfold raccS; rw [if_pos (by rw [← HE.out, he])]
      have HEE := Lib.hid (And.intro he hs)
      have hi0' : ¬ (i : Int) < 0 := by omega
      obtain ⟨y, rfl⟩ := Int.eq_ofNat_of_zero_le hx0
      have hyn : y < st.q.n.toNat := by omega
      obtain ⟨w1, hw1⟩ : ∃ w1, w1 = w.alloc (.cells #[.int .i64 (y : Int), .int .u64 (k : Int)] 150) := ⟨_, rfl⟩
      have hf1 : Fr (fun _ => False) w w1 := by rw [hw1]; exact (Fr.refl _ w).alloc _
      have hX1 := HX.out.fr hf1 (fun _ _ h => h)
      have hn1 : ∀ j u, [Value.int .i64 (y : Int), .int .u64 (k : Int)][j]? = some u → w1.cell? (Addr.add ⟨w.heap.size, 0, none⟩ j) = some u := by
        rw [hw1]; exact World.news_of_block (cs := #[.int .i64 (y : Int), .int .u64 (k : Int)]) (t := 150) (fr := (0, 0)) (heap_alloc_new w _)
      have hrow := hX1.mark
      have c10 : w.cell? ⟨r, 10, none⟩ = some ml := HX.out.blk.cell 10 rfl
      obtain ⟨ma, mc, rfl⟩ := own_sl4 hrow
      have HW1 := Lib.hid hw1
      have HX1 := Lib.hid hX1
      have HF1 := Lib.hid hf1
      clear he hs hf hv hvk hin hw1 hX1 hf1
      go_wp2_with (first
        | (at_builtin
           rw [← HW1.out]
           clear HW1
           refine wpList_bi2 rfl .append _ _ _ _ _ rfl rfl rfl _ (ap_cells (base := 0) Try.underlying134 hi0 hz0 hz1 hz2 rfl (by omega) hrow ⟨w.heap.size, 0, none⟩ 1 1 [.int .i64 (y : Int), .int .u64 (k : Int)] rfl hn1 (by simp [Value.oneCell']) (by unfold maxLen; omega) (by omega) (by omega)) ?_
           rintro v' w2 hap
           obtain ⟨va', vc', rfl⟩ := own_sl4 hap.1
           have hB2 : Blk w2 r 136 _ := hap.blk HX1.out.blk (fun e => own_blk_ne hrow HX1.out.blk (by decide) r e rfl)
           have b10 := hB2.cell 10 rfl
           have f10 := hB2.frozen 10))
      go_ret
      refine ⟨by rw [HEE.out.1]; rfl, More F w1 w2, ⟨sv, lv, sl, .slice va' (st.M.length + 1) vc', tv, svs, ?_⟩, Nx.more HF1.out.size (by simp), (Fr.trans (X := F) HF1.out.none_up (app_fr hap 10 _) (fun j hj h => ?_))⟩
      · rw [HEE.out.2]
        exact HX1.out.putMark (y, k) ⟨hyn, hk⟩ hap
      · rcases h with h | h | h
        · exact h
        · rw [h]; exact HX1.out.rF
        · exact HX1.out.mlF j h
end Go.Proofs.Ytkpfgoalohbfeaa

/- The document's Must. -/
namespace Go.Proofs.Ytkpfgoalohbfeaa
open Go.RowKit

/-- What has to be proposed: the vote of the greatest ballot, of the lowest node. -/
def BestR (L : List (Nat × List Vt)) (k : Nat) (o : Option (Vt × Nat)) : Prop :=
  (o = none ∧ ∀ t ∈ L, ∀ v ∈ t.2, v.s ≠ k) ∨ ∃ v t, o = some (v, t.1) ∧ t ∈ L ∧ v ∈ t.2 ∧ v.s = k ∧ ∀ u ∈ L, ∀ x ∈ u.2, x.s = k → lessB v.n v.d x.n x.d = false ∧ (x.n = v.n → x.d = v.d → t.1 ≤ u.1)
/-- Seen when the loops stand at node n, place i, vote j. -/
def Proc (n i j a x node : Nat) : Prop := node < n ∨ (node = n ∧ (a < i ∨ (a = i ∧ x < j)))
def BestTo (L : List (Nat × List Vt)) (k n i j : Nat) (b : Nat) (d : Int) (val : List UInt8) : Prop :=
  (b = 0 ∧ d = 0 ∧ val = [] ∧ ∀ (a : Nat) (t : Nat × List Vt) (x : Nat) (v : Vt), L[a]? = some t → t.2[x]? = some v → v.s = k → ¬ Proc n i j a x t.1) ∨
  ∃ (a : Nat) (t : Nat × List Vt) (x : Nat) (v : Vt), L[a]? = some t ∧ t.2[x]? = some v ∧ v.s = k ∧ t.1 ≤ n ∧ b = v.n ∧ d = v.d ∧ val = v.v ∧
    ∀ (a' : Nat) (t' : Nat × List Vt) (x' : Nat) (v' : Vt), L[a']? = some t' → t'.2[x']? = some v' → v'.s = k → Proc n i j a' x' t'.1 → lessB v.n v.d v'.n v'.d = false ∧ (v'.n = v.n → v'.d = v.d → t.1 ≤ t'.1)
section
variable {L : List (Nat × List Vt)} {k n i j b : Nat} {d : Int} {val : List UInt8}
theorem BestTo.start (L : List (Nat × List Vt)) (k : Nat) : BestTo L k 0 0 0 0 0 [] := .inl ⟨rfl, rfl, rfl, fun a t x v _ _ _ h => by unfold Proc at h; omega⟩
theorem BestTo.move (h : BestTo L k n i j b d val) {n' i' j' : Nat} (hn : n ≤ n') (hp : ∀ (a : Nat) (t : Nat × List Vt) (x : Nat) (v : Vt), L[a]? = some t → t.2[x]? = some v → Proc n' i' j' a x t.1 → Proc n i j a x t.1) : BestTo L k n' i' j' b d val := by
  rcases h with ⟨h1, h2, h3, h4⟩ | ⟨a, t, x, v, h1, h2, h3, h4, h5, h6, h7, h8⟩
  · exact .inl ⟨h1, h2, h3, fun a t x v ha hx hs hpr => h4 a t x v ha hx hs (hp a t x v ha hx hpr)⟩
  · exact .inr ⟨a, t, x, v, h1, h2, h3, by omega, h5, h6, h7, fun a' t' x' v' ha hx hs hpr => h8 a' t' x' v' ha hx hs (hp a' t' x' v' ha hx hpr)⟩
theorem BestTo.other (h : BestTo L k n i 0 b d val) {t : Nat × List Vt} (ht : L[i]? = some t) (hn : t.1 ≠ n) : BestTo L k n (i + 1) 0 b d val :=
  h.move (Nat.le_refl _) fun a u x v ha hx hpr => by
    unfold Proc at *
    by_cases hai : a = i
    · subst hai
      rw [ht] at ha
      cases ha
      omega
    · omega
theorem BestTo.row (h : BestTo L k n i j b d val) {t : Nat × List Vt} (ht : L[i]? = some t) (hj : t.2.length ≤ j) : BestTo L k n (i + 1) 0 b d val :=
  h.move (Nat.le_refl _) fun a u x v ha hx hpr => by
    unfold Proc at *
    by_cases hai : a = i
    · subst hai
      rw [ht] at ha
      cases ha
      have := (List.getElem?_eq_some_iff.1 hx).1
      omega
    · omega
theorem BestTo.node (h : BestTo L k n i 0 b d val) (hi : L.length ≤ i) : BestTo L k (n + 1) 0 0 b d val :=
  h.move (by omega) fun a u x v ha _ hpr => by
    have := (List.getElem?_eq_some_iff.1 ha).1
    unfold Proc at *
    omega
theorem BestTo.keep (h : BestTo L k n i j b d val) {t : Nat × List Vt} {v : Vt} (ht : L[i]? = some t) (hv : t.2[j]? = some v) (hr : 1 ≤ v.n) (hk : v.s ≠ k ∨ lessB b d v.n v.d = false) : BestTo L k n i (j + 1) b d val := by
  have key : ∀ (a : Nat) (u : Nat × List Vt) (x : Nat) (y : Vt), L[a]? = some u → u.2[x]? = some y → Proc n i (j + 1) a x u.1 → Proc n i j a x u.1 ∨ (u = t ∧ y = v ∧ t.1 = n) := fun a u x y ha hx hpr => by
    unfold Proc at *
    by_cases hax : a = i ∧ x = j
    · obtain ⟨rfl, rfl⟩ := hax
      rw [ht] at ha
      cases ha
      rw [hv] at hx
      cases hx
      by_cases hn : t.1 < n
      · exact .inl (.inl hn)
      · exact .inr ⟨rfl, rfl, by omega⟩
    · exact .inl (by omega)
  rcases h with ⟨h1, h2, h3, h4⟩ | ⟨a, u, x, y, h1, h2, h3, h4, h5, h6, h7, h8⟩
  · refine .inl ⟨h1, h2, h3, fun a u x y ha hx hs hpr => ?_⟩
    rcases key a u x y ha hx hpr with h | ⟨rfl, rfl, h⟩
    · exact h4 a u x y ha hx hs h
    · rcases hk with hk | hk
      · exact hk hs
      · rw [h1, h2, lessB_no] at hk; omega
  · refine .inr ⟨a, u, x, y, h1, h2, h3, h4, h5, h6, h7, fun a' t' x' v' ha hx hs hpr => ?_⟩
    rcases key a' t' x' v' ha hx hpr with h | ⟨rfl, rfl, h⟩
    · exact h8 a' t' x' v' ha hx hs h
    · rcases hk with hk | hk
      · exact absurd hs hk
      · rw [h5, h6] at hk
        exact ⟨hk, fun _ _ => by omega⟩
theorem BestTo.take (h : BestTo L k n i j b d val) {t : Nat × List Vt} {v : Vt} (ht : L[i]? = some t) (hv : t.2[j]? = some v) (hn : t.1 = n) (hs : v.s = k) (hl : lessB b d v.n v.d = true) : BestTo L k n i (j + 1) v.n v.d v.v := by
  refine .inr ⟨i, t, j, v, ht, hv, hs, by omega, rfl, rfl, rfl, fun a' t' x' v' ha hx hs' hpr => ?_⟩
  by_cases hax : a' = i ∧ x' = j
  · obtain ⟨rfl, rfl⟩ := hax
    rw [ht] at ha
    cases ha
    rw [hv] at hx
    cases hx
    exact ⟨by rw [lessB_no]; omega, fun _ _ => Nat.le_refl _⟩
  · have hpr' : Proc n i j a' x' t'.1 := by unfold Proc at *; omega
    rcases h with ⟨h1, h2, h3, h4⟩ | ⟨a, u, x, y, h1, h2, h3, h4, h5, h6, h7, h8⟩
    · exact absurd hpr' (h4 a' t' x' v' ha hx hs')
    · obtain ⟨h9, h10⟩ := h8 a' t' x' v' ha hx hs' hpr'
      rw [h5, h6, lessB_iff] at hl
      rw [lessB_no] at h9 ⊢
      exact ⟨by omega, fun e1 e2 => by omega⟩
theorem BestTo.all {st : Rs} (hw : RWf st) (h : BestTo st.L k st.q.n.toNat 0 0 b d val) : ∃ o, BestR st.L k o ∧ val = (o.map (·.1.v)).getD [] ∧ o.isSome = decide (0 < b) := by
  have hp : ∀ (a : Nat) (t : Nat × List Vt) (x : Nat), st.L[a]? = some t → Proc st.q.n.toNat 0 0 a x t.1 := fun a t x ha => .inl (hw.node t (List.mem_of_getElem? ha))
  rcases h with ⟨h1, h2, h3, h4⟩ | ⟨a, u, x, y, h1, h2, h3, h4, h5, h6, h7, h8⟩
  · refine ⟨none, .inl ⟨rfl, fun t ht v hv hs => ?_⟩, by rw [h3]; rfl, by rw [h1]; rfl⟩
    obtain ⟨a, ha⟩ := List.getElem?_of_mem ht
    obtain ⟨x, hx⟩ := List.getElem?_of_mem hv
    exact h4 a t x v ha hx hs (hp a t x ha)
  · refine ⟨some (y, u.1), .inr ⟨y, u, rfl, List.mem_of_getElem? h1, List.mem_of_getElem? h2, h3, fun t ht v hv hs => ?_⟩, by rw [h7]; rfl, ?_⟩
    · obtain ⟨a', ha⟩ := List.getElem?_of_mem ht
      obtain ⟨x', hx⟩ := List.getElem?_of_mem hv
      exact h8 a' t x' v ha hx hs (hp a' t x' ha)
    · have := (rightV_get _ _ _ _ (hw.vot u (List.mem_of_getElem? h1)) x y h2).2.1
      unfold rightB at this
      rw [decide_eq_true_eq] at this
      rw [h5]
      simp [this.1]
end
set_option maxRecDepth 100000 in
set_option maxHeartbeats 8000000 in
theorem rmust_any (r : Nat) (st : Rs) (F : Nat → Prop) (k : Nat) (w : World) (h : RR w r st F) :
    Calls Try.prog 92 #[.pointer (some ⟨r, 0, none⟩), .int .u64 k] w fun e w' => ∃ o, BestR st.L k o ∧ ResB w w' (o.map (·.1.v)) e := by
  have hwf := h.wf
  obtain ⟨sv, lv, sl, ml, tv, svs, h⟩ := h
  obtain ⟨la, lc, rfl⟩ := own_sl4 h.told
  have hl := h.r_lt.2.1
  unfold maxLen at hl
  have hn12 := hwf.ok.n
  obtain ⟨N, hN⟩ : ∃ N, N = st.q.n.toNat := ⟨_, rfl⟩
  have hNi : st.q.n = (N : Int) := by omega
  have c1 : w.cell? ⟨r, 1, none⟩ = some (.int .i64 (N : Int)) := by rw [← hNi]; exact h.blk.cell 1 rfl
  have c8 : w.cell? ⟨r, 8, none⟩ = some (.slice la st.L.length lc) := h.blk.cell 8 rfl
  have hN12 : N ≤ 12 := by omega
  have HX := Lib.hid h
  have HW := Lib.hid hwf
  have HN := Lib.hid hN
  have hrl := h.blk.lt
  obtain ⟨w1, hw1⟩ : ∃ w1, w1 = w.alloc (.cells #[.int .u64 0, .int .i64 0] 44) := ⟨_, rfl⟩
  have hf1 : Fr (fun _ => False) w w1 := by rw [hw1]; exact (Fr.refl _ w).alloc _
  obtain ⟨bb, hbb⟩ : ∃ b, b = w.heap.size := ⟨_, rfl⟩
  have hB1 : Blk w1 bb 44 #[.int .u64 0, .int .i64 0] := by rw [hw1, hbb]; exact Blk.new _ _ _
  have HW1 := Lib.hid hw1
  have HBB := Lib.hid hbb
  have HC := Lib.hid (And.intro c1 c8)
  clear h hwf hn12 hNi hN hw1 hbb c1 c8
  go_enter Try.func92, Try.ntmps92
  go_upto_region 2 with (fail)
  rw [← HW1.out, ← HBB.out]
  clear HW1
  go_wp2_with fail
  go_loopg [7, 8] N (fun g x7 x8 wr => ∃ (n b : Nat) (d : Int) (val : List UInt8) (va : Option Addr) (vc : Nat), n + g = N ∧ x8 = .int .i64 n ∧ x7 = .slice va val.length vc ∧ BestTo st.L k n 0 0 b d val ∧ Byt w (.slice va val.length vc) val ∧ Blk wr bb 44 #[.int .u64 b, .int .i64 d] ∧ Fr (fun _ => False) w wr)
  case atStart => exact ⟨0, 0, 0, [], none, 0, by omega, rfl, rfl, BestTo.start _ _, byt_nil _, hB1, hf1⟩
  case round =>
    clear hB1 hf1 w1
    obtain ⟨n, b, d, val, va, vc, hn, rfl, rfl, hbt, hby, hB, hfr⟩ := hrel
    have HNn := Lib.hid hn
    have HBt := Lib.hid hbt
    have HBy := Lib.hid hby
    have hn' : n ≤ N := by omega
    have c1 := hfr.cell HC.out.1 (fun h => h)
    clear hn hbt hby
    by_cases hnN : n < N
    · go_wp2_with fail
      go_loopg [7, 9] st.L.length (fun g x7 x9 wr => ∃ (i b : Nat) (d : Int) (val : List UInt8) (va : Option Addr) (vc : Nat), i + g = st.L.length ∧ x9 = .int .i64 i ∧ x7 = .slice va val.length vc ∧ BestTo st.L k n i 0 b d val ∧ Byt w (.slice va val.length vc) val ∧ Blk wr bb 44 #[.int .u64 b, .int .i64 d] ∧ Fr (fun _ => False) w wr)
      case atStart => exact ⟨0, b, d, val, va, vc, by omega, rfl, rfl, HBt.out, HBy.out, hB, hfr⟩
      case round =>
        clear HBt HBy hB hfr c1 b d val va vc
        obtain ⟨i, b, d, val, va, vc, hi, rfl, rfl, hbt, hby, hB, hfr⟩ := hrel
        have HI := Lib.hid hi
        have HBt := Lib.hid hbt
        have HBy := Lib.hid hby
        have hi' : i ≤ st.L.length := by omega
        have c8 := hfr.cell HC.out.2 (fun h => h)
        clear hi hbt hby
        by_cases hil : i < st.L.length
        · obtain ⟨t, ht⟩ : ∃ t, st.L[i]? = some t := ⟨_, List.getElem?_eq_getElem hil⟩
          obtain ⟨g, lc', v, e1, q0, q1, hvt⟩ := HX.out.told_at ht
          injection e1 with e1 _ e2
          subst e1 e2
          have hvt' := hvt.up hfr (fun _ h => h.elim)
          obtain ⟨⟨Av, cv, rfl, hve⟩, hvl⟩ := hvt
          have HV := Lib.hid hve
          clear hve
          unfold maxLen at hvl
          have HTT := Lib.hid ht
          have hii : (i : Int) < (st.L.length : Int) := by omega
          have HQ := Lib.hid (And.intro q0 q1)
          clear ht hvt' q0 q1
          go_wp2_with fail
          go_loopg [7, 10] t.2.length (fun g' x7 x10 wr => ∃ (j b : Nat) (d : Int) (val : List UInt8) (va : Option Addr) (vc : Nat), j + g' = t.2.length ∧ x10 = .int .i64 j ∧ x7 = .slice va val.length vc ∧ (j = 0 ∨ t.1 = n) ∧ BestTo st.L k n i j b d val ∧ Byt w (.slice va val.length vc) val ∧ Blk wr bb 44 #[.int .u64 b, .int .i64 d] ∧ Fr (fun _ => False) w wr)
          case atStart => exact ⟨0, b, d, val, va, vc, by omega, rfl, rfl, .inl rfl, HBt.out, HBy.out, hB, hfr⟩
          case round =>
            clear HBt HBy hB hfr c8 b d val va vc
            obtain ⟨j, b, d, val, va, vc, hj, rfl, rfl, hjn, hbt, hby, hB, hfr⟩ := hrel
            have HJ := Lib.hid (And.intro hj hjn)
            have HBt := Lib.hid hbt
            have HBy := Lib.hid hby
            have hj' : j ≤ t.2.length := by omega
            have c8 := hfr.cell HC.out.2 (fun h => h)
            have q0 := hfr.cell HQ.out.1 (fun h => h)
            have q1 := hfr.cell HQ.out.2 (fun h => h)
            clear hj hbt hby hjn
            by_cases hjl : j < t.2.length
            · by_cases htn : t.1 = n
              · have htn' : ((t.1 : Int) == (n : Int)) = true := by simp [htn]
                have HTn := Lib.hid htn
                clear htn
                obtain ⟨z, hz⟩ : ∃ z, t.2[j]? = some z := ⟨_, List.getElem?_eq_getElem hjl⟩
                obtain ⟨bz, oz, sz, rfl, -, hat, -⟩ := HV.out j z hz
                have hzr := (rightV_get _ _ _ _ (HW.out.vot t (List.mem_of_getElem? HTT.out)) j z hz).2.1
                have hzn : 1 ≤ z.n := by
                  unfold rightB at hzr
                  rw [decide_eq_true_eq] at hzr
                  omega
                have HZ := Lib.hid hz
                have hzb := hat.by_
                have HZB := Lib.hid hat.by_
                obtain ⟨Az, cz, rfl, -, -⟩ := hzb
                have z0 := hfr.cell hat.c0 (fun h => h)
                have z1 := hfr.cell hat.c1 (fun h => h)
                have z2 := hfr.cell hat.c2 (fun h => h)
                have z3 := hfr.cell hat.c3 (fun h => h)
                obtain ⟨w2, hw2⟩ : ∃ w2, w2 = wr.alloc (.cells #[.int .u64 z.s, .int .u64 z.n, .int .i64 z.d, .slice Az z.v.length cz] 46) := ⟨_, rfl⟩
                have hf2 : Fr (fun _ => False) wr w2 := by rw [hw2]; exact (Fr.refl _ wr).alloc _
                obtain ⟨bv, hbv⟩ : ∃ b, b = wr.heap.size := ⟨_, rfl⟩
                have hV2 : Blk w2 bv 46 #[.int .u64 z.s, .int .u64 z.n, .int .i64 z.d, .slice Az z.v.length cz] := by rw [hw2, hbv]; exact Blk.new _ _ _
                have hB2 := hB.fr hf2 (fun h => h)
                have hfr2 := hfr.tr hf2
                have HW2 := Lib.hid hw2
                have HBV := Lib.hid hbv
                clear hz hzr hat hw2 hbv hf2 hB hfr
                go_upto_region 13 with (fail)
                rw [← HW2.out, ← HBV.out]
                clear HW2 HBV z0 z1 z2 z3 c8 q0 q1
                have v0 := hV2.cell 0 rfl
                have v1 := hV2.cell 1 rfl
                have v2 := hV2.cell 2 rfl
                have b0 := hB2.cell 0 rfl
                have b1 := hB2.cell 1 rfl
                go_wp2_with fail
                refine (rless_any b d z.n z.d w2).mono ?_
                rintro e w3 ⟨rfl, hf3⟩
                have hV3 := hV2.fr hf3 (fun h => h)
                have hB3 := hB2.fr hf3 (fun h => h)
                have hfr3 := hfr2.tr hf3
                clear v0 v1 v2 b0 b1 hV2 hB2 hfr2 hf3
                have v0 := hV3.cell 0 rfl
                by_cases hzs : z.s = k
                · have hzs' : ((z.s : Int) == (k : Int)) = true := by simp [hzs]
                  have HZS := Lib.hid hzs
                  clear hzs
                  cases hlb : lessB b d z.n z.d with
                  | true =>
                    have HLB := Lib.hid hlb
                    clear hlb
                    have v1 := hV3.cell 1 rfl
                    have v2 := hV3.cell 2 rfl
                    have v3 := hV3.cell 3 rfl
                    have b0 := hB3.cell 0 rfl
                    have b1 := hB3.cell 1 rfl
                    have f0 := hB3.frozen 0
                    have f1 := hB3.frozen 1
                    have hblt : ¬ bb < w.heap.size := by rw [HBB.out]; omega
                    have hne : bv ≠ bb := hV3.ne_ hB3 (by decide)
                    have y3 := ((hV3.far (p := ⟨bb, 0, none⟩) hne (.int .u64 z.n)).far (p := ⟨bb, 1, none⟩) hne (.int .i64 z.d)).cell 3 rfl
                    have y2 := (hV3.far (p := ⟨bb, 0, none⟩) hne (.int .u64 z.n)).cell 2 rfl
                    have HBlt := Lib.hid (And.intro hblt hne)
                    clear hblt hne
                    go_wp2_with fail
                    go_roundg (t.2.length - (j + 1))
                    case measure => have := HJ.out; omega
                    case rel =>
                      refine ⟨j + 1, z.n, z.d, z.v, Az, cz, by have := HJ.out; omega, by go_num, rfl, .inr HTn.out, HBt.out.take HTT.out HZ.out HTn.out HZS.out HLB.out, HZB.out, ?_, ?_⟩
                      · simpa using (hB3.set_ 0 (.int .u64 z.n)).set_ 1 (.int .i64 z.d)
                      · exact (hfr3.setCell (p := ⟨bb, 0, none⟩) (fun h => HBlt.out.1 h) _).setCell (p := ⟨bb, 1, none⟩) (fun h => HBlt.out.1 h) _
                  | false =>
                    have HLB := Lib.hid hlb
                    clear hlb
                    go_wp2_with fail
                    go_roundg (t.2.length - (j + 1))
                    case measure => have := HJ.out; omega
                    case rel => exact ⟨j + 1, b, d, val, va, vc, by have := HJ.out; omega, by go_num, rfl, .inr HTn.out, HBt.out.keep HTT.out HZ.out hzn (.inr HLB.out), HBy.out, hB3, hfr3⟩
                · have hzs' : ((z.s : Int) == (k : Int)) = false := by simp; omega
                  have HZS := Lib.hid hzs
                  clear hzs
                  go_wp2_with fail
                  go_roundg (t.2.length - (j + 1))
                  case measure => have := HJ.out; omega
                  case rel => exact ⟨j + 1, b, d, val, va, vc, by have := HJ.out; omega, by go_num, rfl, .inr HTn.out, HBt.out.keep HTT.out HZ.out hzn (.inl HZS.out), HBy.out, hB3, hfr3⟩
              · have htn' : ((t.1 : Int) == (n : Int)) = false := by simp; omega
                have HTn := Lib.hid htn
                clear htn
                go_wp2_with fail
                go_roundg (st.L.length - (i + 1))
                case measure => have := HI.out; omega
                case rel =>
                  refine ⟨i + 1, b, d, val, va, vc, by have := HI.out; omega, by go_num, rfl, ?_, HBy.out, hB, hfr⟩
                  have h := HBt.out
                  rcases HJ.out.2 with h0 | h0
                  · subst h0; exact h.other HTT.out HTn.out
                  · exact absurd h0 HTn.out
            · obtain rfl : j = t.2.length := by omega
              go_wp2_with fail
              go_roundg (st.L.length - (i + 1))
              case measure => have := HI.out; omega
              case rel => exact ⟨i + 1, b, d, val, va, vc, by have := HI.out; omega, by go_num, rfl, HBt.out.row HTT.out (Nat.le_refl _), HBy.out, hB, hfr⟩
        · obtain rfl : i = st.L.length := by omega
          go_wp2_with fail
          go_roundg (N - (n + 1))
          case measure => have := HNn.out; omega
          case rel => exact ⟨n + 1, b, d, val, va, vc, by have := HNn.out; omega, by go_num, rfl, HBt.out.node (Nat.le_refl _), HBy.out, hB, hfr⟩
    · obtain rfl : N = n := by omega
      obtain ⟨o, ho1, ho2, ho3⟩ := BestTo.all HW.out (k := k) (b := b) (d := d) (val := val) (by rw [← HN.out]; exact HBt.out)
      have HO := Lib.hid (And.intro ho1 (And.intro ho2 ho3))
      have b0 := hB.cell 0 rfl
      have hbw := HBy.out.keep (Nat.le_refl _) (hfr.none_up (X := fun k => w.heap.size ≤ k))
      have hd := (Fr.refl (fun _ => False) wr).drew
      have hvl : val.length ≤ 1000000 := by
        rw [ho2]
        rcases ho1 with ⟨rfl, -⟩ | ⟨v, t, rfl, htL, hv, -⟩
        · simp
        · obtain ⟨i, hi⟩ := List.getElem?_of_mem hv
          have := (rightV_get _ _ _ _ (HW.out.vot t htL) i v hi).2.2.2
          simp; omega
      clear ho1 ho2 ho3
      go_upto_region 17 with (fail)
      first
        | go_region_held3 (fun wx => wx.cell? ⟨bb, 0, none⟩ = some (.int .u64 b)) (first | exact b0 | exact hS4)
          ((go_at_call 66
            refine (lcopy_any _ val _ (hbw.fr hd (fun _ _ h => h)) hvl).mono ?_
            rintro e w4 ⟨va4, vc4, rfl, ho4, hf4⟩
            have hd4 := hd.tr hf4
            have hS4 := hd4.cell b0 (fun h => h)))
        | fail
      all_goals
        go_wp2_with fail
        go_ret2
        obtain ⟨ho1, ho2, ho3⟩ := HO.out
        refine ⟨o, ho1, va4, vc4, ?_, ?_, hfr.tr hd4⟩
        · have e1 : (o.map (·.1.v)).isSome = decide (0 < b) := by
            rw [Option.isSome_map, ho3]
          rw [e1, ← ho2]
          rfl
        · rw [← ho2]
          exact own_up (own_base ho4) (fun j hj => by have := (ho4.lt j hj).1; have := hfr.size; have := hd.size; omega)
end Go.Proofs.Ytkpfgoalohbfeaa

/- The document's Promise. -/
namespace Go.Proofs.Ytkpfgoalohbfeaa
open Go.RowKit

theorem tdinfo : (Try.prog.info? 146).map (fun i => (i.zero, i.size, i.bytes)) = some (some (.agg #[.int .i64 0, .slice none 0 0]), 2, 32) := by kernel_rfl
def rprmE (st : Rs) (x : Int) (l : List Vt) : Int := if inN st.q x then (if rightV st.n st.d (st.f - 1) l then 0 else 91) else 2
def rprmS (st : Rs) (x : Int) (l : List Vt) : Rs := if rprmE st x l = 0 ∧ toldBit st.L x.toNat = false then { st with L := st.L ++ [(x.toNat, l)] } else st
section
variable {w0 w w' : World} {r : Nat} {st : Rs} {F : Nat → Prop} {sv lv sl ml v v' : Value} {tv svs : List Value}
theorem RX.putTold (h0 : RX w0 r st F sv lv sl ml tv svs) (hf0 : Fr (fun _ => False) w0 w) (t : Nat × List Vt) (hn : t.1 < st.q.n.toNat) (hd : toldBit st.L t.1 = false) (hr : rightV st.n st.d (st.f - 1) t.2 = true)
    (hv : VtL w v t.2 (fun k => k < w0.heap.size ∨ w.heap.size ≤ k)) (ha : Appended 0 146 2 w lv st.L.length 1 (flat2 (tld st.L tv)) [.int .i64 (t.1 : Int), v] v' w') :
    RX (w'.setCell ⟨r, 8, none⟩ v') r { st with L := st.L ++ [t] } (More F w0 w') sv v' sl ml (tv ++ [v]) svs := by
  have h := h0.fr hf0 (fun _ _ h => h)
  have hf := app_fr (r := r) ha 8 v'
  have ho := app_own ha
  have hr0 := h0.blk.lt
  have hs0 := hf0.size
  have hs1 := hf.size
  have hs1' : (w'.setCell ⟨r, 8, none⟩ v').heap.size = w'.heap.size := by simp
  have hl0 := fun k hk => own_lt h0.told (k := k) hk
  have hs0' := fun k hk => own_lt h0.slot (k := k) hk
  have hm0 := fun k hk => own_lt h0.mark (k := k) hk
  obtain ⟨k1, k2⟩ := h.keepV (F' := More F w0 w') (lv' := v') (sl' := sl) (ml' := ml) hf (fun k hk => by rcases hk with hk | hk; exact .inr (.inl hk); exact .inr (.inr (.inl hk))) (fun k hk => by
    rcases hk with hk | hk | hk | hk | hk
    · exact .inl (.inl fun hF => hk (.inl hF))
    · exact .inl (.inr (.inl hk))
    · rcases ho k hk with h1 | h1
      · exact .inl (.inr (.inr (.inl h1)))
      · exact .inr h1.1
    · exact .inl (.inr (.inr (.inr (.inl hk))))
    · exact .inl (.inr (.inr (.inr (.inr hk)))))
  have hB : Blk w' r 136 _ := ha.blk h.blk (fun e => own_blk_ne h.told h.blk (by decide) r e rfl)
  have hrow := ha.1
  refine ⟨by simpa using hB.set_ 8 v', own_fr h.site hf (fun k hk => ?_), ?_, own_fr h.slot hf (fun k hk => ?_), own_fr h.mark hf (fun k hk => ?_), by simp [h.tlen], h.slen, fun i u s hu hs => ?_, k2, .inl h.rF, fun k hk => .inl (h.svF k hk), fun k hk => ?_, fun k hk => .inl (h.slF k hk), fun k hk => .inl (h.mlF k hk), ?_⟩
  · rintro (e | e)
    · exact own_blk_ne h.site h.blk (by decide) k hk e
    · exact own_own_ne h.site h.told (by decide) k k hk e rfl
  · show World.ownsRow _ 0 146 2 v' (st.L ++ [t]).length (flat2 (tld (st.L ++ [t]) (tv ++ [v])))
    rw [List.length_append, List.length_singleton, tld_append h.tlen, flat2_append]
    refine own_fr hrow (Fr.set1 w' r 8 v') (fun k hk e => ?_)
    exact own_blk_ne hrow hB (by decide) k hk e
  · rintro (e | e)
    · exact own_blk_ne h.slot h.blk (by decide) k hk e
    · exact own_own_ne h.slot h.told (by decide) k k hk e rfl
  · rintro (e | e)
    · exact own_blk_ne h.mark h.blk (by decide) k hk e
    · exact own_own_ne h.mark h.told (by decide) k k hk e rfl
  · by_cases hi : i < st.L.length
    · have hu' : st.L[i]? = some u := by
        have hu : (st.L ++ [t])[i]? = some u := hu
        rwa [List.getElem?_append_left hi] at hu
      have hs' : tv[i]? = some s := by rwa [List.getElem?_append_left (by rw [h.tlen]; exact hi)] at hs
      exact k1 i u s hu' hs'
    · have hi' : i = st.L.length := by
        have hu : (st.L ++ [t])[i]? = some u := hu
        have := (List.getElem?_eq_some_iff.1 hu).1
        simp at this; omega
      subst hi'
      have hu : (st.L ++ [t])[st.L.length]? = some u := hu
      rw [List.getElem?_append_right (Nat.le_refl _)] at hu
      rw [List.getElem?_append_right (by rw [h.tlen]; exact Nat.le_refl _), h.tlen] at hs
      simp at hu hs
      subst hu hs
      refine (hv.up hf (fun k hk => ?_)).mono (fun k hk => ?_)
      · rcases hk with hk | hk
        · left; rw [hk]; exact hr0
        · exact .inl (hl0 k hk)
      · rcases hk with hk | hk | hk | hk | hk
        · by_cases hkw : k < w0.heap.size
          · exact .inl hkw
          · by_cases hkw2 : k < w'.heap.size
            · exact absurd (.inr ⟨by omega, hkw2⟩) hk
            · right; omega
        · left; rw [hk]; exact hr0
        · rcases ho k hk with h1 | h1
          · exact .inl (hl0 k h1)
          · exact .inr h1.1
        · exact .inl (hs0' k hk)
        · exact .inl (hm0 k hk)
  · rcases ho k hk with h1 | h1
    · exact .inl (h.lvF k h1)
    · exact .inr ⟨by omega, h1.2⟩
  · have hw := h.wf
    refine ⟨hw.ok, hw.ql, hw.rb, hw.n64, hw.f1, hw.f64, fun x hx => ?_, ?_, fun x hx => ?_, hw.sl, hw.sd, hw.mks⟩
    · rcases List.mem_append.1 hx with hx | hx
      · exact hw.node x hx
      · have : x = t := by simpa using hx
        rw [this]; exact hn
    · refine List.pairwise_append.2 ⟨hw.dist, by simp, fun a ha b hb => ?_⟩
      have : b = t := by simpa using hb
      rw [this]
      unfold toldBit at hd
      rw [List.any_eq_false] at hd
      simpa using hd a ha
    · rcases List.mem_append.1 hx with hx | hx
      · exact hw.vot x hx
      · have : x = t := by simpa using hx
        rw [this]; exact hr
end
/-- Where the check of votes stands. -/
def LastV (f : Nat) (l : List Vt) (j last : Nat) : Prop := (j = 0 ∧ last = f - 1) ∨ ∃ u, 0 < j ∧ l[j - 1]? = some u ∧ last = u.s ∧ f ≤ u.s

/-! ### the votes, in new memory -/
/-- The first j votes of l lie in a row of their own, each value in a row of its own, all behind w0. -/
structure Cop (w0 w : World) (v : Value) (l : List Vt) (vs : List Value) : Prop where
  row : w.ownsRow w0.heap.size 46 4 v l.length (flatV l vs)
  len : vs.length = l.length
  val : ∀ (i : Nat) (p : Vt) (s : Value), l[i]? = some p → vs[i]? = some s → w.ownsRow w0.heap.size 5 1 s p.v.length (u8s p.v)
  fr : Fr (fun _ => False) w0 w
section
variable {w0 w w' : World} {v v' : Value} {l : List Vt} {vs : List Value}
theorem Cop.up (h : Cop w0 w v l vs) (hf : Fr (fun _ => False) w w') : Cop w0 w' v l vs :=
  ⟨own_fr h.row hf (fun _ _ h => h), h.len, fun i p s h1 h2 => own_fr (h.val i p s h1 h2) hf (fun _ _ h => h), h.fr.tr hf⟩
theorem Cop.put1 (h : Cop w0 w v l vs) {b i : Nat} {u : Value} {t : TypeId} {cs : Array Value} (hB : Blk w b t cs) (hb : w0.heap.size ≤ b) (h1 : 5 ≠ t) (hv : ∀ k, v.ownBlock = some k → k ≠ b) : Cop w0 (w.setCell ⟨b, i, none⟩ u) v l vs := by
  have hf := Fr.set1 w b i u
  exact ⟨own_fr h.row hf (fun k hk => hv k hk), h.len, fun i p s h3 h4 => own_fr (h.val i p s h3 h4) hf (fun k hk => own_blk_ne (h.val i p s h3 h4) hB h1 k hk), h.fr.setCell (p := ⟨b, i, none⟩) (fun h => by simp only at h; omega) u⟩
theorem Cop.more {p : Vt} {s : Value} (h : Cop w0 w v l vs) (hs : w.ownsRow w0.heap.size 5 1 s p.v.length (u8s p.v)) (ha : Appended w0.heap.size 46 4 w v l.length 1 (flatV l vs) [.int .u64 p.s, .int .u64 p.n, .int .i64 p.d, s] v' w') : Cop w0 w' v' (l ++ [p]) (vs ++ [s]) := by
  have hf : Fr (fun k => v.ownBlock = some k) w w' := (Fr.refl _ w).grown ha.2.1 (fun k hk _ => hk)
  refine ⟨?_, by simp [h.len], fun i q u hq hu => ?_, ha.fr h.fr (fun k hk hlt => by have := (h.row.lt k hk).1; omega)⟩
  · rw [List.length_append, List.length_singleton, flatV_append _ _ _ _ h.len]
    exact ha.1
  · by_cases hi : i < l.length
    · rw [List.getElem?_append_left hi] at hq
      rw [List.getElem?_append_left (by rw [h.len]; exact hi)] at hu
      exact own_fr (h.val i q u hq hu) hf (fun k hk e => own_own_ne (h.val i q u hq hu) h.row (by decide) k k hk e rfl)
    · have hi' : i = l.length := by
        have := (List.getElem?_eq_some_iff.1 hq).1
        simp at this; omega
      subst hi'
      rw [List.getElem?_append_right (Nat.le_refl _)] at hq
      rw [List.getElem?_append_right (by rw [h.len]; exact Nat.le_refl _), h.len] at hu
      simp at hq hu
      subst hq hu
      exact own_fr hs hf (fun k hk e => own_own_ne hs h.row (by decide) k k hk e rfl)
theorem Cop.nil (w : World) : Cop w w (.slice none 0 0) [] [] := ⟨World.ownsRow_nil _ _ _ _, rfl, fun i p s h => by simp at h, Fr.refl _ _⟩
/-- A vote of numbers in their bounds. -/
def VtN (p : Vt) : Prop := p.s < 18446744073709551616 ∧ p.n < 18446744073709551616 ∧ -9223372036854775808 ≤ p.d ∧ p.d ≤ 9223372036854775807 ∧ p.v.length ≤ maxLen
theorem Cop.vtl (h : Cop w0 w v l vs) (hn : ∀ p ∈ l, VtN p) (hl : l.length ≤ maxLen) : VtL w v l (fun k => k < w0.heap.size ∨ w.heap.size ≤ k) := by
  rcases own_form h.row with ⟨rfl, hL, _⟩ | ⟨g, cap, cur, rfl, hg0, hg, _⟩
  · have : l = [] := List.eq_nil_of_length_eq_zero hL
    subst this
    exact VtL.nil _ _
  · have hrow := own_base h.row
    refine ⟨⟨_, cap, rfl, fun i p hp => ?_⟩, hl⟩
    have hi : i < vs.length := by rw [h.len]; exact (List.getElem?_eq_some_iff.1 hp).1
    obtain ⟨e1, e2, e3, e4⟩ := flatV_get _ _ i _ _ hp (List.getElem?_eq_getElem hi)
    have ho := h.val i p _ hp (List.getElem?_eq_getElem hi)
    obtain ⟨n1, n2, n3, n4, n5⟩ := hn p (List.mem_of_getElem? hp)
    refine ⟨g, 0, vs[i], rfl, by have := hg.lt; omega, ⟨by rw [Nat.zero_add]; exact own_cell hrow _ e1, by rw [Nat.zero_add]; exact own_cell hrow _ e2, by rw [Nat.zero_add]; exact own_cell hrow _ e3, by rw [Nat.zero_add]; exact own_cell hrow _ e4, Byt.of_own ho, n5, n1, n2, n3, n4⟩, fun k hk _ => ?_⟩
    have := ho.lt k hk
    omega
end
end Go.Proofs.Ytkpfgoalohbfeaa

