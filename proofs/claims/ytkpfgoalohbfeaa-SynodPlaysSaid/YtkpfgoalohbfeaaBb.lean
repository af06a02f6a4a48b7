/- Merged: PA PB PC PD PE PF PG PH PI. -/
import Derived.Test.YtkpfgoalohbfeaaChecked
import Derived.Test.YtkpfgoalohbfeaaBa
import Derived.Maps.OwnOps
import Derived.Maps.RangeWalk
import Derived.Deep.RegionLaw
import Derived.Deep.RegionWith
import Derived.Deep.RegionHeld3
import Derived.Carry
/- A map of uint64s, by what it has at each key. -/
namespace Go.Proofs.Ytkpfgoalohbfeaa
open Go.RowKit Go.MapKept
open Go.ChangeMaps (setBlock modify_eq_set heap_setBlock_same heap_setBlock_other)
open Go.Maps (Keyed)

/-- Block b is a map of at most n uint64s; m: what it has at each. -/
def Mp (w : World) (b n : Nat) (m : Nat → Option Value) : Prop :=
  ∃ es clock, w.heap[b]? = some (.map es clock) ∧ Stamped es clock ∧ es.size ≤ n ∧
    (∀ x ∈ es.toList, ∃ k : Nat, k < 18446744073709551616 ∧ x.key = .int .u64 k ∧ m k = some x.val) ∧ (∀ k v, m k = some v → ∃ x ∈ es.toList, x.key = .int .u64 (k : Nat))

/-- The same but at k. -/
def upd {α : Type} (m : Nat → Option α) (k : Nat) (v : α) : Nat → Option α := fun j => if j = k then some v else m j

section
variable {w w' : World} {b n : Nat} {m : Nat → Option Value} {X : Nat → Prop}
theorem Mp.lt (h : Mp w b n m) : b < w.heap.size := by obtain ⟨es, cl, hb, _⟩ := h; exact (Array.getElem?_eq_some_iff.1 hb).1
theorem Mp.fr (h : Mp w b n m) (hf : Fr X w w') (hx : ¬ X b) : Mp w' b n m := by
  have hl := h.lt
  obtain ⟨es, cl, hb, r⟩ := h
  exact ⟨es, cl, (hf.block b hl hx).trans hb, r⟩
theorem Mp.mono (h : Mp w b n m) {n' : Nat} (hn : n ≤ n') : Mp w b n' m := by
  obtain ⟨es, cl, hb, h1, h2, r⟩ := h
  exact ⟨es, cl, hb, h1, Nat.le_trans h2 hn, r⟩
theorem Mp.blk_ne {g : Nat} {t : TypeId} {cs : Array Value} (h : Mp w b n m) (hg : Blk w g t cs) : g ≠ b := by
  rintro rfl
  obtain ⟨es, cl, hb, _⟩ := h
  unfold Blk at hg
  rw [hb] at hg
  cases hg
theorem Mp.own_ne {base : Nat} {e : TypeId} {size : Nat} {v : Value} {k : Nat} {xs : List Value} (h : Mp w b n m) (hg : w.ownsRow base e size v k xs) : ∀ j, v.ownBlock = some j → j ≠ b := by
  rcases hg.2 with ⟨rfl, _⟩ | ⟨g, cap, cur, rfl, _, hh, _⟩
  · simp [Value.ownBlock]
  · intro j hj
    simp only [Value.ownBlock] at hj
    injection hj with hj
    subst hj
    exact h.blk_ne (t := e) hh
theorem Mp.u64 (h : Mp w b n m) {k : Nat} {v : Value} (hk : m k = some v) : k < 18446744073709551616 := by
  obtain ⟨es, cl, _, _, _, h1, h2⟩ := h
  obtain ⟨x, hx, hxk⟩ := h2 k v hk
  obtain ⟨k', hk', hx', _⟩ := h1 x hx
  rw [hxk] at hx'
  injection hx' with _ hx'
  omega
theorem Mp.made (w : World) : Mp (w.alloc (.map #[] 0)) w.heap.size 0 (fun _ => none) :=
  ⟨#[], 0, (MapKept.heap_alloc w _).1, stamped_empty 0, by simp, by simp, by simp⟩
end

theorem u64wf (k : Nat) (hk : k < 18446744073709551616) : (Lit.int .u64 (k : Int)).wf = true := by
  simp [Lit.wf, IntKind.min, IntKind.max, IntKind.signed, IntKind.bits]; omega

section
variable {P : Program} {w : World} {b n : Nat} {m : Nat → Option Value} {t kt e : TypeId}
theorem Mp.find (h : Mp w b n m) (K : Keyed P kt) (hkt : P.underlying kt = some (.int .u64)) (k : Nat) (hk : k < 18446744073709551616) :
    ∃ es clock, w.heap[b]? = some (.map es clock) ∧ (((Instr.findKey kt (.int .u64 k) es.toList).run P w = .ok none w ∧ m k = none) ∨
      ∃ (j : Nat) (e : MapEntry), (Instr.findKey kt (.int .u64 k) es.toList).run P w = .ok (some (j, e.val)) w ∧ m k = some e.val) := by
  obtain ⟨es, cl, hb, h1, h2, h3, h4⟩ := h
  have keys : ∀ x ∈ es.toList, ∃ l, keyOf P kt x.key = some l := fun x hx => by
    obtain ⟨k', hk', hx', _⟩ := h3 x hx
    rw [hx']
    exact ⟨_, Maps.keyOf_int_mk hkt (u64wf k' hk')⟩
  refine ⟨es, cl, hb, ?_⟩
  rcases K.find w (Maps.keyOf_int_mk hkt (u64wf k hk)) es.toList keys with ⟨f1, f2⟩ | ⟨j, e0, f1, f2, f3⟩
  · refine .inl ⟨f1, ?_⟩
    cases hm : m k with
    | none => rfl
    | some v =>
      obtain ⟨x, hx, hxk⟩ := h4 k v hm
      exact absurd hxk (f2 x hx)
  · refine .inr ⟨j, e0, f1, ?_⟩
    obtain ⟨k', hk', hx', hv⟩ := h3 e0 (List.mem_of_getElem? f2)
    rw [f3] at hx'
    injection hx' with _ hx'
    have : k = k' := by omega
    rw [this]; exact hv
/-- 'v, ok := m[k]'. -/
theorem Mp.look (h : Mp w b n m) (K : Keyed P kt) (hkt : P.underlying kt = some (.int .u64)) (ht : P.underlying t = some (.map kt e)) {z : Value} (hz : (zeroValue e).run P w = .ok z w) (k : Nat) (hk : k < 18446744073709551616) :
    (Instr.lookup t (.map (some b)) (.int .u64 k) true).run P w = .ok (.tuple #[(m k).getD z, .bool (m k).isSome]) w := by
  obtain ⟨es, cl, hb, hf⟩ := h.find K hkt k hk
  have hc := K.check w true (Maps.keyOf_int_mk hkt (u64wf k hk))
  have hc' := K.check w false (Maps.keyOf_int_mk hkt (u64wf k hk))
  rcases hf with ⟨f1, f2⟩ | ⟨j, e0, f1, f2⟩
  · simp [Instr.lookup, run_underlying ht, MapKept.run_getObj_map hb, K.check w _ (Maps.keyOf_int_mk hkt (u64wf k hk)), f1, hz, Result.andThen, f2]
  · simp [Instr.lookup, run_underlying ht, MapKept.run_getObj_map hb, K.check w _ (Maps.keyOf_int_mk hkt (u64wf k hk)), f1, Result.andThen, f2]
/-- 'm[k] = v'. -/
theorem Mp.update (h : Mp w b n m) (K : Keyed P kt) (hkt : P.underlying kt = some (.int .u64)) (ht : P.underlying t = some (.map kt e)) (hn : n < maxLen) (k : Nat) (hk : k < 18446744073709551616) (v : Value) :
    ∃ w', (Instr.mapUpdate t (.map (some b)) (.int .u64 k) v).run P w = .ok () w' ∧ Mp w' b (n + 1) (upd m k v) ∧ Fr (fun j => j = b) w w' ∧ w'.heap.size = w.heap.size := by
  obtain ⟨es, cl, hb, h1, h2, h3, h4⟩ := h
  have hkey := Maps.keyOf_int_mk (P := P) hkt (u64wf k hk)
  have keys : ∀ x ∈ es.toList, ∃ l, keyOf P kt x.key = some l := fun x hx => by
    obtain ⟨k', hk', hx', _⟩ := h3 x hx
    rw [hx']
    exact ⟨_, Maps.keyOf_int_mk hkt (u64wf k' hk')⟩
  have hfr : ∀ o, Fr (fun j => j = b) w (setBlock w b o) := fun o => ⟨rfl, rfl, rfl, by simp [setBlock], fun i _ hi => heap_setBlock_other hb _ hi⟩
  have hinj : ∀ {i j : Nat}, Value.int .u64 (i : Int) = Value.int .u64 (j : Int) → i = j := fun h => by injection h with _ h; omega
  rcases K.find w hkey es.toList keys with ⟨f1, f2⟩ | ⟨j, e0, f1, f2, f3⟩
  · refine ⟨setBlock w b (.map (es.push ⟨.int .u64 k, v, cl⟩) (cl + 1)), ?_, ⟨_, _, heap_setBlock_same hb _, stamped_push h1 f2, by simp; omega, ?_, ?_⟩, hfr _, by simp [setBlock]⟩
    · have hroom : es.size < maxLen := by omega
      simp [Instr.mapUpdate, run_underlying ht, MapKept.run_getObj_map hb, K.check w false hkey, f1, MapKept.run_setObj_map _ hb, Result.andThen, setBlock]
    · intro x hx
      simp only [Array.toList_push, List.mem_append, List.mem_singleton] at hx
      rcases hx with hx | rfl
      · obtain ⟨k', hk', hx', hv⟩ := h3 x hx
        refine ⟨k', hk', hx', ?_⟩
        have : k' ≠ k := by rintro rfl; exact f2 x hx hx'
        rw [upd, if_neg this]; exact hv
      · exact ⟨k, hk, rfl, by simp [upd]⟩
    · intro k' v' hv
      by_cases hkk : k' = k
      · subst hkk
        exact ⟨⟨.int .u64 k', v, cl⟩, by simp, rfl⟩
      · rw [upd, if_neg hkk] at hv
        obtain ⟨x, hx, hxk⟩ := h4 k' v' hv
        exact ⟨x, by simp [Array.toList_push, hx], hxk⟩
  · have hj : es[j]? = some e0 := by simpa using f2
    have hjl : j < es.toList.length := (List.getElem?_eq_some_iff.1 f2).1
    have hkeyf : ∀ e', es[j]? = some e' → ({ e' with key := .int .u64 k, val := v } : MapEntry).key = e'.key := fun e' he' => by rw [hj] at he'; cases he'; exact f3.symm
    have hlist : (es.modify j (fun e' : MapEntry => { e' with key := .int .u64 k, val := v })).toList = es.toList.set j { e0 with key := .int .u64 k, val := v } := by rw [Array.toList_modify, modify_eq_set _ _ _ _ f2]
    have hpw := ((stamped_iff es cl).1 h1).2.2
    refine ⟨setBlock w b (.map (es.modify j (fun e' : MapEntry => { e' with key := .int .u64 k, val := v })) cl), ?_, ⟨_, _, heap_setBlock_same hb _, stamped_modify h1 _ _ (fun _ _ => rfl) (fun e' _ he' => hkeyf e' he'), by simp; omega, ?_, ?_⟩, hfr _, by simp [setBlock]⟩
    · simp [Instr.mapUpdate, run_underlying ht, MapKept.run_getObj_map hb, K.check w false hkey, f1, hj, f3, K.stays w hkey, MapKept.run_setObj_map _ hb, Result.andThen, setBlock]
    · intro x hx
      rw [hlist] at hx
      obtain ⟨i, hi, ex⟩ := List.getElem_of_mem hx
      rw [List.getElem_set] at ex
      split at ex
      · subst ex
        exact ⟨k, hk, rfl, by simp [upd]⟩
      · rename_i hne
        have hi' : i < es.toList.length := by simpa using hi
        have hxm : x ∈ es.toList := ex ▸ List.getElem_mem hi'
        obtain ⟨k', hk', hx', hv⟩ := h3 x hxm
        refine ⟨k', hk', hx', ?_⟩
        have : k' ≠ k := by
          rintro rfl
          have hpi := List.pairwise_iff_getElem.1 hpw
          have e1 : es.toList[j] = e0 := by rw [List.getElem?_eq_getElem hjl] at f2; exact Option.some.inj f2
          rcases Nat.lt_or_gt_of_ne hne with h | h
          · exact hpi j i hjl hi' h (by rw [e1, ex, f3, hx'])
          · exact hpi i j hi' hjl h (by rw [e1, ex, f3, hx'])
        rw [upd, if_neg this]; exact hv
    · intro k' v' hv
      rw [hlist]
      by_cases hkk : k' = k
      · subst hkk
        exact ⟨{ e0 with key := .int .u64 k', val := v }, List.mem_iff_getElem.2 ⟨j, by simpa using hjl, by simp⟩, rfl⟩
      · rw [upd, if_neg hkk] at hv
        obtain ⟨x, hx, hxk⟩ := h4 k' v' hv
        obtain ⟨i, hi⟩ := List.getElem?_of_mem hx
        have hij : i ≠ j := by
          rintro rfl
          rw [f2] at hi
          cases hi
          rw [f3] at hxk
          exact hkk (hinj hxk).symm
        exact ⟨x, List.mem_of_getElem? ((by rw [List.getElem?_set_ne (fun h => hij h.symm)]; exact hi : _[i]? = _)), hxk⟩
end

/-! ### 'm[k] = v' as a step -/
section
variable {P : Program} {ops : Array Oper} {rest : List Oper} {o : Oper} {a : Act} {w : World} {K : Act → World → Prop} {Q : Exit → Act → World → Prop} {b n : Nat} {m : Nat → Option Value} {t kt e : TypeId}
theorem wp_mapUpdate (h : Mp w b n m) (L : Keyed P kt) (hkt : P.underlying kt = some (.int .u64)) (ht : P.underlying t = some (.map kt e)) (hn : n < maxLen) (k : Nat) (hk : k < 18446744073709551616) (v : Value)
    (mo ko vo : Operand) (hop : o.op = Op.mapUpdate t mo ko vo) (hm : a.eval mo = .map (some b)) (hx : a.eval ko = .int .u64 k) (hv : a.eval vo = v)
    (hK : ∀ w', Mp w' b (n + 1) (upd m k v) → Fr (fun j => j = b) w w' → w'.heap.size = w.heap.size → K (a.put o.dst undef) w') : o.wp P a w K Q := by
  obtain ⟨w', hrun, h1, h2, h3⟩ := h.update L hkt ht hn k hk v
  unfold Oper.wp
  simp [execOp, hop, hm, hx, hv, hrun, Result.andThen]
  exact hK w' h1 h2 h3
theorem wpList_mapUpdate (hgd : o.guard = none) (h : Mp w b n m) (L : Keyed P kt) (hkt : P.underlying kt = some (.int .u64)) (ht : P.underlying t = some (.map kt e)) (hn : n < maxLen) (k : Nat) (hk : k < 18446744073709551616) (v : Value)
    (mo ko vo : Operand) (hop : o.op = Op.mapUpdate t mo ko vo) (hm : a.eval mo = .map (some b)) (hx : a.eval ko = .int .u64 k) (hv : a.eval vo = v)
    (hK : ∀ w', Mp w' b (n + 1) (upd m k v) → Fr (fun j => j = b) w w' → w'.heap.size = w.heap.size → wpList P ops Q rest (a.put o.dst undef) w') : wpList P ops Q (o :: rest) a w :=
  wpList_plain hgd fun _ hK' => wp_mapUpdate h L hkt ht hn k hk v mo ko vo hop hm hx hv fun w' h1 h2 h3 => hK' _ _ (hK w' h1 h2 h3)
theorem step_mapUpdate {E : Prop} (hgd : o.guard = none) (h : Mp w b n m) (L : Keyed P kt) (hkt : P.underlying kt = some (.int .u64)) (ht : P.underlying t = some (.map kt e)) (hn : n < maxLen) (k : Nat) (hk : k < 18446744073709551616) (v : Value)
    (mo ko vo : Operand) (hop : o.op = Op.mapUpdate t mo ko vo) (hm : a.eval mo = .map (some b)) (hx : a.eval ko = .int .u64 k) (hv : a.eval vo = v)
    (hK : ∀ w', Mp w' b (n + 1) (upd m k v) → Fr (fun j => j = b) w w' → w'.heap.size = w.heap.size → K (a.put o.dst undef) w') :
    if Region.wanted o (yielded ops a.tmps) = true then Oper.wp P o a w K Q else E := by
  have hw : Region.wanted o (yielded ops a.tmps) = true := by simp [Region.wanted, hgd]
  rw [if_pos hw]
  exact wp_mapUpdate h L hkt ht hn k hk v mo ko vo hop hm hx hv hK
end

theorem key64 : Keyed Try.prog 42 := Maps.int_keyed Try.underlying42
end Go.Proofs.Ytkpfgoalohbfeaa

/- What a Proposer holds; accept.Right, accept.Less, node. -/
namespace Go.Proofs.Ytkpfgoalohbfeaa
open Go.RowKit

/-- A vote. -/
structure Vt where
  s : Nat
  n : Nat
  d : Int
  v : List UInt8
/-- A proposer: its quorums, its ballot, from where, who promised, what has to be proposed (and who said so), what was proposed and who accepted. -/
structure Ps where
  q : Qu
  n : Nat
  d : Int
  f : Nat
  set : Nat
  mu : Nat → Option (Vt × Int)
  sl : Nat → Option (Vt × Nat)

def rightB (n : Nat) (d : Int) : Bool := decide (0 < n ∧ 0 ≤ d ∧ d < 12)
def lessB (a : Nat) (b : Int) (c : Nat) (d : Int) : Bool := decide (a < c ∨ (a = c ∧ b < d))

structure Wf (p : Ps) : Prop where
  ok : Ok p.q
  ql : p.q.s.length ≤ 1000
  rb : rightB p.n p.d = true
  n64 : p.n < 18446744073709551616
  f1 : 1 ≤ p.f
  f64 : p.f < 18446744073709551616
  st : p.set < 4096
  mu : ∀ k v nd, p.mu k = some (v, nd) → v.s = k ∧ k < 18446744073709551616 ∧ v.v.length ≤ 100
  sl : ∀ k v X, p.sl k = some (v, X) → v.s = k ∧ k < 18446744073709551616 ∧ v.v.length ≤ 100 ∧ X < 4096 ∧ p.f ≤ k ∧ v.n = p.n ∧ v.d = p.d

def muV (v : Vt) (nd : Int) (s : Value) : Value := .agg #[.int .u64 v.s, .int .u64 v.n, .int .i64 v.d, s, .int .i64 nd]
def slC (v : Vt) (X : Nat) (s : Value) : Array Value := #[.int .u64 v.s, .int .u64 v.n, .int .i64 v.d, s, .int .u32 X]
/-- Bytes in a row of their own, in a block of G. -/
def OwB (w : World) (G : Nat → Prop) (s : Value) (bs : List UInt8) : Prop := w.ownsRow 0 5 1 s bs.length (u8s bs) ∧ ∀ g, s.ownBlock = some g → G g
def MuAt (w : World) (G : Nat → Prop) (x : Option (Vt × Int)) (y : Option Value) : Prop :=
  (x = none ∧ y = none) ∨ ∃ v nd s, x = some (v, nd) ∧ y = some (muV v nd s) ∧ OwB w G s v.v
def SlAt (w : World) (G : Nat → Prop) (x : Option (Vt × Nat)) (y : Option Value) : Prop :=
  (x = none ∧ y = none) ∨ ∃ v X g s, x = some (v, X) ∧ y = some (.pointer (some ⟨g, 0, none⟩)) ∧ Blk w g 131 (slC v X s) ∧ G g ∧ OwB w G s v.v

def prC (p : Ps) (sv : Value) (mb sb : Nat) : Array Value :=
  #[.int .i64 p.q.k, .int .i64 p.q.n, .int .i64 p.q.o, .int .i64 p.q.t, sv, .int .u64 p.n, .int .i64 p.d, .int .u64 p.f, .int .u32 p.set, .map (some mb), .map (some sb)]
structure PX (w : World) (r : Nat) (p : Ps) (c : Nat) (G : Nat → Prop) (sv : Value) (mb sb : Nat) (mm sm : Nat → Option Value) : Prop where
  blk : Blk w r 112 (prC p sv mb sb)
  site : w.ownsRow 0 3 1 sv p.q.s.length (i64s p.q.s)
  siteG : ∀ k, sv.ownBlock = some k → G k
  rG : G r
  mbG : G mb
  sbG : G sb
  ne : mb ≠ sb
  mus : Mp w mb c mm
  sls : Mp w sb c sm
  mu : ∀ k, MuAt w G (p.mu k) (mm k)
  sl : ∀ k, SlAt w G (p.sl k) (sm k)
  inj : ∀ k k' g, sm k = some (.pointer (some ⟨g, 0, none⟩)) → sm k' = some (.pointer (some ⟨g, 0, none⟩)) → k = k'
  wf : Wf p
/-- The proposer p lies at r; its blocks are of G; no more than c entries a map. -/
def PR (w : World) (r : Nat) (p : Ps) (c : Nat) (G : Nat → Prop) : Prop := ∃ sv mb sb mm sm, PX w r p c G sv mb sb mm sm

section
variable {w w' : World} {G G' X : Nat → Prop} {r c : Nat} {p : Ps} {sv : Value} {mb sb : Nat} {mm sm : Nat → Option Value}
theorem OwB.fr {s : Value} {bs : List UInt8} (h : OwB w G s bs) (hf : Fr X w w') (hx : ∀ k, k < w.heap.size → G k → ¬ X k) : OwB w' G s bs := ⟨own_fr h.1 hf fun k hk => hx k (own_lt h.1 hk) (h.2 k hk), h.2⟩
theorem OwB.up {s : Value} {bs : List UInt8} (h : OwB w G s bs) (hg : ∀ k, k < w.heap.size → G k → G' k) : OwB w G' s bs := ⟨h.1, fun g hk => hg g (own_lt h.1 hk) (h.2 g hk)⟩
theorem OwB.byt {s : Value} {bs : List UInt8} (h : OwB w G s bs) : Byt w s bs := Byt.of_own h.1
theorem MuAt.fr {x : Option (Vt × Int)} {y : Option Value} (h : MuAt w G x y) (hf : Fr X w w') (hx : ∀ k, k < w.heap.size → G k → ¬ X k) : MuAt w' G x y := by
  rcases h with h | ⟨v, nd, s, h1, h2, h3⟩
  · exact .inl h
  · exact .inr ⟨v, nd, s, h1, h2, h3.fr hf hx⟩
theorem SlAt.fr {x : Option (Vt × Nat)} {y : Option Value} (h : SlAt w G x y) (hf : Fr X w w') (hx : ∀ k, k < w.heap.size → G k → ¬ X k) : SlAt w' G x y := by
  rcases h with h | ⟨v, Y, g, s, h1, h2, h3, h4, h5⟩
  · exact .inl h
  · exact .inr ⟨v, Y, g, s, h1, h2, h3.fr hf (hx g h3.lt h4), h4, h5.fr hf hx⟩
theorem MuAt.up {x : Option (Vt × Int)} {y : Option Value} (h : MuAt w G x y) (hg : ∀ k, k < w.heap.size → G k → G' k) : MuAt w G' x y := by
  rcases h with h | ⟨v, nd, s, h1, h2, h3⟩
  · exact .inl h
  · exact .inr ⟨v, nd, s, h1, h2, h3.up hg⟩
theorem SlAt.up {x : Option (Vt × Nat)} {y : Option Value} (h : SlAt w G x y) (hg : ∀ k, k < w.heap.size → G k → G' k) : SlAt w G' x y := by
  rcases h with h | ⟨v, Y, g, s, h1, h2, h3, h4, h5⟩
  · exact .inl h
  · exact .inr ⟨v, Y, g, s, h1, h2, h3, hg g h3.lt h4, h5.up hg⟩
theorem PX.fr (h : PX w r p c G sv mb sb mm sm) (hf : Fr X w w') (hx : ∀ k, k < w.heap.size → G k → ¬ X k) : PX w' r p c G sv mb sb mm sm :=
  ⟨h.blk.fr hf (hx r h.blk.lt h.rG), own_fr h.site hf fun k hk => hx k (own_lt h.site hk) (h.siteG k hk), h.siteG, h.rG, h.mbG, h.sbG, h.ne, h.mus.fr hf (hx mb h.mus.lt h.mbG), h.sls.fr hf (hx sb h.sls.lt h.sbG), fun k => (h.mu k).fr hf hx, fun k => (h.sl k).fr hf hx, h.inj, h.wf⟩
theorem PX.up (h : PX w r p c G sv mb sb mm sm) (hg : ∀ k, k < w.heap.size → G k → G' k) : PX w r p c G' sv mb sb mm sm :=
  ⟨h.blk, h.site, fun k hk => hg k (own_lt h.site hk) (h.siteG k hk), hg r h.blk.lt h.rG, hg mb h.mus.lt h.mbG, hg sb h.sls.lt h.sbG, h.ne, h.mus, h.sls, fun k => (h.mu k).up hg, fun k => (h.sl k).up hg, h.inj, h.wf⟩
theorem PR.fr (h : PR w r p c G) (hf : Fr X w w') (hx : ∀ k, k < w.heap.size → G k → ¬ X k) : PR w' r p c G := by
  obtain ⟨sv, mb, sb, mm, sm, h⟩ := h
  exact ⟨sv, mb, sb, mm, sm, h.fr hf hx⟩
theorem PR.up (h : PR w r p c G) (hg : ∀ k, k < w.heap.size → G k → G' k) : PR w r p c G' := by
  obtain ⟨sv, mb, sb, mm, sm, h⟩ := h
  exact ⟨sv, mb, sb, mm, sm, h.up hg⟩
theorem PR.none_ (h : PR w r p c G) (hf : Fr (fun _ => False) w w') : PR w' r p c G := h.fr hf (fun _ _ _ h => h)
theorem PR.wf (h : PR w r p c G) : Wf p := by obtain ⟨_, _, _, _, _, h⟩ := h; exact h.wf
theorem PR.mono (h : PR w r p c G) {c' : Nat} (hc : c ≤ c') : PR w r p c' G := by
  obtain ⟨sv, mb, sb, mm, sm, h⟩ := h
  exact ⟨sv, mb, sb, mm, sm, h.blk, h.site, h.siteG, h.rG, h.mbG, h.sbG, h.ne, h.mus.mono hc, h.sls.mono hc, h.mu, h.sl, h.inj, h.wf⟩
theorem ints_own {l : List Int} {n : Nat} (h : w.ownsRow 0 3 1 sv n (i64s l)) : Ints w sv l := by
  have hn : l.length = n := by have := h.1; simpa [i64s] using this
  rcases own_form h with ⟨rfl, rfl, hx⟩ | ⟨g, cap, cur, rfl, _, hg, _, _, _, hx⟩
  · have : l = [] := List.eq_nil_of_length_eq_zero hn
    subst this
    exact ⟨none, 0, rfl, fun h => absurd rfl h⟩
  · subst hn
    refine ⟨some ⟨g, 0, none⟩, cap, rfl, fun _ => ⟨g, 0, rfl, fun i u hu => ?_⟩⟩
    rw [Nat.zero_add]
    exact own_cell h i (by simp [i64s, hu])
end

set_option maxHeartbeats 1000000 in
theorem aright_any (n : Nat) (d : Int) (w : World) :
    Calls Try.prog 56 #[.agg #[.int .u64 n, .int .i64 d]] w fun e w' => e = .returned (.bool (rightB n d)) ∧ Fr (fun _ => False) w w' := by
  have hf := (Fr.refl (fun _ => False) w).alloc (.cells #[.int .u64 n, .int .i64 d] 44)
  have HF := Lib.hid hf
  clear hf
  by_cases h0 : 0 < n
  · by_cases h1 : 0 ≤ d
    · have e1 : rightB n d = decide (d < 12) := by simp [rightB, h0, h1]
      rw [e1]; clear e1
      go_enter Try.func56, Try.ntmps56
      go_wp2
      go_ret
      exact ⟨rfl, HF.out⟩
    · have e1 : rightB n d = false := by simp [rightB, h1]
      rw [e1]; clear e1
      go_enter Try.func56, Try.ntmps56
      go_wp2
      go_ret
      exact ⟨rfl, HF.out⟩
  · have e1 : rightB n d = false := by simp [rightB, h0]
    rw [e1]; clear e1
    go_enter Try.func56, Try.ntmps56
    go_wp2
    go_ret
    exact ⟨rfl, HF.out⟩

set_option maxHeartbeats 1000000 in
theorem less_any (a : Nat) (b : Int) (c : Nat) (d : Int) (w : World) :
    Calls Try.prog 58 #[.agg #[.int .u64 a, .int .i64 b], .agg #[.int .u64 c, .int .i64 d]] w fun e w' => e = .returned (.bool (lessB a b c d)) ∧ Fr (fun _ => False) w w' := by
  have hf := ((Fr.refl (fun _ => False) w).alloc (.cells #[.int .u64 a, .int .i64 b] 44)).alloc (.cells #[.int .u64 c, .int .i64 d] 44)
  have HF := Lib.hid hf
  clear hf
  by_cases h0 : a < c
  · have e1 : lessB a b c d = true := by simp [lessB, h0]
    rw [e1]; clear e1
    go_enter Try.func58, Try.ntmps58
    go_wp2
    go_ret
    exact ⟨rfl, HF.out⟩
  · by_cases h1 : a = c
    · have e1 : lessB a b c d = decide (b < d) := by simp [lessB, h1]
      rw [e1]; clear e1
      subst h1
      go_enter Try.func58, Try.ntmps58
      go_wp2
      go_ret
      exact ⟨rfl, HF.out⟩
    · have e1 : lessB a b c d = false := by simp [lessB, h0, h1]
      rw [e1]; clear e1
      have h2 : ((a : Int) == (c : Int)) = false := by simp; omega
      go_enter Try.func58, Try.ntmps58
      go_wp2
      go_ret
      exact ⟨rfl, HF.out⟩

/-- Is it a node? -/
def nodeB (p : Ps) (x : Int) : Bool := decide (0 ≤ x ∧ x < p.q.n)
theorem node_any (r : Nat) (p : Ps) (x : Int) (w : World) (h : w.cell? ⟨r, 1, none⟩ = some (.int .i64 p.q.n)) :
    Calls Try.prog 72 #[.pointer (some ⟨r, 0, none⟩), .int .i64 x] w fun e w' => e = .returned (.bool (nodeB p x)) ∧ w = w' := by
  by_cases h0 : 0 ≤ x
  · have e1 : nodeB p x = decide (x < p.q.n) := by simp [nodeB, h0]
    rw [e1]; clear e1
    go_enter Try.func72, Try.ntmps72
    go_wp2
    go_ret
    exact ⟨rfl, rfl⟩
  · have e1 : nodeB p x = false := by simp [nodeB, h0]
    rw [e1]; clear e1
    go_enter Try.func72, Try.ntmps72
    go_wp2
    go_ret
    exact ⟨rfl, rfl⟩
end Go.Proofs.Ytkpfgoalohbfeaa

/- Votes that are told: may they be? -/
namespace Go.Proofs.Ytkpfgoalohbfeaa
open Go.RowKit

/-- A vote's cells at a place. -/
structure VtAt (w : World) (b o : Nat) (p : Vt) (s : Value) : Prop where
  c0 : w.cell? ⟨b, o, none⟩ = some (.int .u64 p.s)
  c1 : w.cell? ⟨b, o + 1, none⟩ = some (.int .u64 p.n)
  c2 : w.cell? ⟨b, o + 2, none⟩ = some (.int .i64 p.d)
  c3 : w.cell? ⟨b, o + 3, none⟩ = some s
  by_ : Byt w s p.v
  l : p.v.length ≤ maxLen
  s64 : p.s < 18446744073709551616
  n64 : p.n < 18446744073709551616
  d0 : -9223372036854775808 ≤ p.d
  d1 : p.d ≤ 9223372036854775807
/-- A list of votes; none of its blocks, nor of the values', is of X. -/
structure VtL (w : World) (v : Value) (ps : List Vt) (X : Nat → Prop) : Prop where
  ex : ∃ A c, v = .slice A ps.length c ∧ ∀ i p, ps[i]? = some p → ∃ b off s, A = some ⟨b, off, none⟩ ∧ ¬ X b ∧ VtAt w b (off + i * 4) p s ∧ ∀ g, s.ownBlock = some g → p.v ≠ [] → ¬ X g
  len : ps.length ≤ maxLen

section
variable {w w' : World} {X Y : Nat → Prop}
theorem Byt.fr' {v : Value} {bs : List UInt8} (h : Byt w v bs) (hf : Fr X w w') (hx : ∀ k, v.ownBlock = some k → bs ≠ [] → ¬ X k) : Byt w' v bs := by
  by_cases hn : bs = []
  · obtain ⟨A, c, rfl, h0, h1⟩ := h
    exact ⟨A, c, rfl, h0, fun h => absurd hn h⟩
  · exact h.fr hf fun k hk => hx k hk hn
theorem VtAt.fr {b o : Nat} {p : Vt} {s : Value} (h : VtAt w b o p s) (hf : Fr X w w') (hb : ¬ X b) (hs : ∀ g, s.ownBlock = some g → p.v ≠ [] → ¬ X g) : VtAt w' b o p s :=
  ⟨hf.cell h.c0 hb, hf.cell h.c1 hb, hf.cell h.c2 hb, hf.cell h.c3 hb, h.by_.fr' hf hs, h.l, h.s64, h.n64, h.d0, h.d1⟩
theorem VtL.fr {v : Value} {ps : List Vt} (h : VtL w v ps X) (hf : Fr X w w') : VtL w' v ps X := by
  obtain ⟨⟨A, c, rfl, h1⟩, h2⟩ := h
  refine ⟨⟨A, c, rfl, fun i p hp => ?_⟩, h2⟩
  obtain ⟨b, off, s, e, hb, h3, h4⟩ := h1 i p hp
  exact ⟨b, off, s, e, hb, h3.fr hf hb h4, h4⟩
theorem VtL.lt {v : Value} {ps : List Vt} (h : VtL w v ps X) : VtL w v ps (fun k => X k ∨ w.heap.size ≤ k) := by
  obtain ⟨⟨A, c, rfl, h1⟩, h2⟩ := h
  refine ⟨⟨A, c, rfl, fun i p hp => ?_⟩, h2⟩
  obtain ⟨b, off, s, e, hb, h3, h4⟩ := h1 i p hp
  refine ⟨b, off, s, e, ?_, h3, fun g hg hn => ?_⟩
  · rintro (h | h)
    · exact hb h
    · have : b < w.heap.size := World.block_lt_of_cell? w _ h3.c0
      omega
  · rintro (h | h)
    · exact h4 g hg hn h
    · obtain ⟨k, hk, hlt⟩ := h3.by_.lt hn
      rw [hk] at hg
      injection hg with hg
      omega
theorem VtL.mono {v : Value} {ps : List Vt} (h : VtL w v ps X) (hx : ∀ k, Y k → X k) : VtL w v ps Y := by
  obtain ⟨⟨A, c, rfl, h1⟩, h2⟩ := h
  refine ⟨⟨A, c, rfl, fun i p hp => ?_⟩, h2⟩
  obtain ⟨b, off, s, e, hb, h3, h4⟩ := h1 i p hp
  exact ⟨b, off, s, e, fun h => hb (hx b h), h3, fun g hg hn h => h4 g hg hn (hx g h)⟩
theorem VtL.nil (w : World) (X : Nat → Prop) : VtL w (.slice none 0 0) [] X := ⟨⟨none, 0, rfl, fun i p hp => by simp at hp⟩, by simp⟩
theorem VtL.up {v : Value} {ps : List Vt} (h : VtL w v ps X) (hf : Fr Y w w') (hx : ∀ k, Y k → X k) : VtL w' v ps X := by
  obtain ⟨⟨A, c, rfl, h1⟩, h2⟩ := h
  refine ⟨⟨A, c, rfl, fun i p hp => ?_⟩, h2⟩
  obtain ⟨b, off, s, e, hb, h3, h4⟩ := h1 i p hp
  exact ⟨b, off, s, e, hb, h3.fr hf (fun h => hb (hx b h)) (fun g hg hn h => h4 g hg hn (hx g h)), h4⟩
end

/-- One vote: may it be told behind slot 'last'? -/
def oneV (n : Nat) (d : Int) (last : Nat) (v : Vt) : Bool := !decide (v.s ≤ last) && rightB v.n v.d && lessB v.n v.d n d && !decide (100 < v.v.length)
def rightV (n : Nat) (d : Int) : Nat → List Vt → Bool
  | _, [] => true
  | last, v :: l => oneV n d last v && rightV n d v.s l
theorem rightV_get (n : Nat) (d : Int) : ∀ (l : List Vt) (last : Nat), rightV n d last l = true → ∀ (i : Nat) (v : Vt), l[i]? = some v → last < v.s ∧ rightB v.n v.d = true ∧ lessB v.n v.d n d = true ∧ v.v.length ≤ 100
  | [], _, _, i, v, hv => by simp at hv
  | u :: l, last, h, i, v, hv => by
    simp only [rightV, oneV, Bool.and_eq_true, Bool.not_eq_true', decide_eq_false_iff_not, Nat.not_le] at h
    obtain ⟨⟨⟨⟨h1, h2⟩, h3⟩, h4⟩, h5⟩ := h
    cases i with
    | zero =>
      simp at hv
      subst hv
      exact ⟨h1, h2, h3, by omega⟩
    | succ i =>
      obtain ⟨g1, g2⟩ := rightV_get n d l u.s h5 i v (by simpa using hv)
      exact ⟨by omega, g2⟩
theorem drop_cons {α : Type} {l : List α} {j : Nat} {p : α} (h : l[j]? = some p) : l.drop j = p :: l.drop (j + 1) := by
  obtain ⟨hlt, he⟩ := List.getElem?_eq_some_iff.1 h
  rw [List.drop_eq_getElem_cons hlt, he]

set_option maxRecDepth 100000 in
set_option maxHeartbeats 8000000 in
theorem right_v (r : Nat) (p : Ps) (sv : Value) (mb sb : Nat) (v : Value) (l : List Vt) (w : World) (h : Blk w r 112 (prC p sv mb sb)) (hf1 : 1 ≤ p.f) (hf64 : p.f < 18446744073709551616) (hl : VtL w v l (fun _ => False)) :
    Calls Try.prog 73 #[.pointer (some ⟨r, 0, none⟩), v] w fun e w' => e = .returned (.bool (rightV p.n p.d (p.f - 1) l)) ∧ Fr (fun _ => False) w w' := by
  obtain ⟨⟨A, c, rfl, hl1⟩, hl2⟩ := hl
  unfold maxLen at hl2
  have HL := Lib.hid hl1
  clear hl1
  have r5 : w.cell? ⟨r, 5, none⟩ = some (.int .u64 p.n) := h.cell 5 rfl
  have r6 : w.cell? ⟨r, 6, none⟩ = some (.int .i64 p.d) := h.cell 6 rfl
  have r7 : w.cell? ⟨r, 7, none⟩ = some (.int .u64 p.f) := h.cell 7 rfl
  clear h
  obtain ⟨qq, n, d, f, st, mu, sl⟩ := p
  simp only at hf1 hf64 r5 r6 r7 ⊢
  go_enter Try.func73, Try.ntmps73
  go_wp2_with fail
  have hw1 : ((f : Int) - 1) % 18446744073709551616 = ((f - 1 : Nat) : Int) := by omega
  go_loopg [5, 15] l.length (fun g x5 x15 wr => ∃ (j last : Nat), j + g = l.length ∧ x15 = .int .i64 j ∧ x5 = .int .u64 last ∧ rightV n d (f - 1) l = rightV n d last (l.drop j) ∧ Fr (fun _ => False) w wr)
  case atStart => exact ⟨0, f - 1, by omega, rfl, by first | rfl | (rw [hw1]) | go_num, by rw [List.drop_zero], Fr.refl _ _⟩
  case round =>
    obtain ⟨j, last, hj, rfl, rfl, hno, hfr⟩ := hrel
    have HJ := Lib.hid (And.intro hj hno)
    have hj' : j ≤ l.length := by omega
    clear hj hno hw1
    by_cases hlt : j < l.length
    · obtain ⟨p, hp⟩ : ∃ p, l[j]? = some p := ⟨_, List.getElem?_eq_getElem hlt⟩
      obtain ⟨b, off, s, rfl, -, hat, -⟩ := HL.out j p hp
      have hd := Lib.hid (drop_cons hp)
      have hat' := hat.fr hfr (fun h => h) (fun _ _ _ h => h)
      have hby := hat.by_
      obtain ⟨sa, sc, rfl, -, -⟩ := hby
      have hpl := hat.l
      unfold maxLen at hpl
      have hs64 := hat.s64
      have hn64 := hat.n64
      have q0 := hat'.c0
      have q1 := hat'.c1
      have q2 := hat'.c2
      have q3 := hat'.c3
      clear hat hat' hp
      obtain ⟨w2, hw2⟩ : ∃ w2, w2 = wr.alloc (.cells #[.int .u64 p.s, .int .u64 p.n, .int .i64 p.d, .slice sa p.v.length sc] 46) := ⟨_, rfl⟩
      have hf2 : Fr (fun _ => False) wr w2 := by rw [hw2]; exact (Fr.refl _ wr).alloc _
      have hb2 : Blk w2 wr.heap.size 46 #[.int .u64 p.s, .int .u64 p.n, .int .i64 p.d, .slice sa p.v.length sc] := by rw [hw2]; exact Blk.new _ _ _
      have HW2 := Lib.hid hw2
      have F0 := hfr.tr hf2
      clear hw2 hf2 hfr
      go_upto_region 5 with (fail)
      rw [← HW2.out]
      clear HW2 q0 q1 q2 q3
      obtain ⟨q, hq'⟩ : ∃ q, q = wr.heap.size := ⟨_, rfl⟩
      rw [← hq'] at hb2 ⊢
      clear hq'
      have F1 : Fr (fun _ => False) w2 w2.drew := (Fr.refl _ _).drew
      have hbr5 := F0.cell r5 (fun h => h)
      have hbr6 := F0.cell r6 (fun h => h)
      have hkeep : ∀ wx, Fr (fun _ => False) w2 wx → wx.cell? ⟨q, 0, none⟩ = some (.int .u64 p.s) ∧ wx.cell? ⟨q, 1, none⟩ = some (.int .u64 p.n) ∧ wx.cell? ⟨q, 2, none⟩ = some (.int .i64 p.d) ∧ wx.cell? ⟨q, 3, none⟩ = some (.slice sa p.v.length sc) ∧ wx.cell? ⟨r, 5, none⟩ = some (.int .u64 n) ∧ wx.cell? ⟨r, 6, none⟩ = some (.int .i64 d) :=
        fun wx h => ⟨(hb2.fr h (fun h => h)).cell 0 rfl, (hb2.fr h (fun h => h)).cell 1 rfl, (hb2.fr h (fun h => h)).cell 2 rfl, (hb2.fr h (fun h => h)).cell 3 rfl, h.cell hbr5 (fun h => h), h.cell hbr6 (fun h => h)⟩
      have HK := Lib.hid hkeep
      clear hkeep hbr5 hbr6
      have b0 := hb2.cell 0 rfl
      have b1 := hb2.cell 1 rfl
      have b2 := hb2.cell 2 rfl
      have b3 := hb2.cell 3 rfl
      have b4 := F0.cell r5 (fun h => h)
      have b5 := F0.cell r6 (fun h => h)
      clear r5 r6 r7 hb2
      by_cases hs : p.s ≤ last
      · have hs' : (p.s : Int) ≤ (last : Int) := by omega
        go_region
        all_goals
          clear b0 b1 b2 b3 b4 b5
          go_wp2_with fail
          go_ret
          refine ⟨?_, F0.tr F1⟩
          have h1 : oneV n d last p = false := by simp [oneV, hs]
          rw [HJ.out.2, hd.out]
          simp only [rightV]
          rw [h1]
          rfl
      · have hs' : ¬ (p.s : Int) ≤ (last : Int) := by omega
        cases hr : rightB p.n p.d with
        | false =>
          have HR := Lib.hid hr
          have HE := Lib.hid hr
          clear hr
          first
            | go_region_law (first
                | (go_simp
                   go_at_call 56
                   refine (aright_any p.n p.d _).mono ?_
                   rintro e w4 ⟨rfl, hf4⟩
                   rw [HR.out]
                   replace F1 := F1.tr hf4
                   obtain ⟨e0, e1, e2, e3, e4, e5⟩ := HK.out _ F1)
                | (go_simp
                   go_at_call 58
                   refine (less_any p.n p.d n d _).mono ?_
                   rintro e w5 ⟨rfl, hf5⟩
                   rw [HE.out]
                   replace F1 := F1.tr hf5
                   obtain ⟨d0, d1, d2, d3, d4, d5⟩ := HK.out _ F1))
            | fail
          all_goals
            clear b0 b1 b2 b3 b4 b5
            go_wp2_with fail
            go_ret
            refine ⟨?_, F0.tr F1⟩
            have h1 : oneV n d last p = false := by simp [oneV, HR.out]
            rw [HJ.out.2, hd.out]
            simp only [rightV]
            rw [h1]
            rfl
        | true =>
          have HR := Lib.hid hr
          clear hr
          cases he : lessB p.n p.d n d with
          | false =>
            have HE := Lib.hid he
            clear he
            first
              | go_region_law (first
                  | (go_simp
                     go_at_call 56
                     refine (aright_any p.n p.d _).mono ?_
                     rintro e w4 ⟨rfl, hf4⟩
                     rw [HR.out]
                     replace F1 := F1.tr hf4
                     obtain ⟨e0, e1, e2, e3, e4, e5⟩ := HK.out _ F1)
                  | (go_simp
                     go_at_call 58
                     refine (less_any p.n p.d n d _).mono ?_
                     rintro e w5 ⟨rfl, hf5⟩
                     rw [HE.out]
                     replace F1 := F1.tr hf5
                     obtain ⟨d0, d1, d2, d3, d4, d5⟩ := HK.out _ F1))
              | fail
            all_goals
              clear b0 b1 b2 b3 b4 b5
              go_wp2_with fail
              go_ret
              refine ⟨?_, F0.tr F1⟩
              have h1 : oneV n d last p = false := by simp [oneV, HE.out]
              rw [HJ.out.2, hd.out]
              simp only [rightV]
              rw [h1]
              rfl
          | true =>
            have HE := Lib.hid he
            clear he
            by_cases hv : 100 < p.v.length
            · have hv' : (100 : Int) < (p.v.length : Int) := by omega
              first
                        | go_region_held3 (fun wx => wx.cell? ⟨q, 0, none⟩ = some (.int .u64 p.s) ∧ wx.cell? ⟨q, 1, none⟩ = some (.int .u64 p.n) ∧ wx.cell? ⟨q, 2, none⟩ = some (.int .i64 p.d) ∧ wx.cell? ⟨q, 3, none⟩ = some (.slice sa p.v.length sc) ∧ wx.cell? ⟨r, 5, none⟩ = some (.int .u64 n) ∧ wx.cell? ⟨r, 6, none⟩ = some (.int .i64 d)) (first | exact ⟨b0, b1, b2, b3, b4, b5⟩ | exact hS4)
                          (first
                            | (go_at_call 56
                               refine (aright_any p.n p.d _).mono ?_
                               rintro e w4 ⟨rfl, hf4⟩
                               rw [HR.out]
                               replace F1 := F1.tr hf4
                               have hS4 := HK.out _ F1)
                            | (go_at_call 58
                               refine (less_any p.n p.d n d _).mono ?_
                               rintro e w5 ⟨rfl, hf5⟩
                               rw [HE.out]
                               replace F1 := F1.tr hf5
                               have hS4 := HK.out _ F1))
                        | fail
              all_goals
                clear b0 b1 b2 b3 b4 b5
                go_wp2_with fail
                go_ret
                refine ⟨?_, F0.tr F1⟩
                have h1 : oneV n d last p = false := by simp [oneV, hv]
                rw [HJ.out.2, hd.out]
                simp only [rightV]
                rw [h1]
                rfl
            · have hv' : ¬ (100 : Int) < (p.v.length : Int) := by omega
              first
                        | go_region_held3 (fun wx => wx.cell? ⟨q, 0, none⟩ = some (.int .u64 p.s) ∧ wx.cell? ⟨q, 1, none⟩ = some (.int .u64 p.n) ∧ wx.cell? ⟨q, 2, none⟩ = some (.int .i64 p.d) ∧ wx.cell? ⟨q, 3, none⟩ = some (.slice sa p.v.length sc) ∧ wx.cell? ⟨r, 5, none⟩ = some (.int .u64 n) ∧ wx.cell? ⟨r, 6, none⟩ = some (.int .i64 d)) (first | exact ⟨b0, b1, b2, b3, b4, b5⟩ | exact hS4)
                          (first
                            | (go_at_call 56
                               refine (aright_any p.n p.d _).mono ?_
                               rintro e w4 ⟨rfl, hf4⟩
                               rw [HR.out]
                               replace F1 := F1.tr hf4
                               have hS4 := HK.out _ F1)
                            | (go_at_call 58
                               refine (less_any p.n p.d n d _).mono ?_
                               rintro e w5 ⟨rfl, hf5⟩
                               rw [HE.out]
                               replace F1 := F1.tr hf5
                               have hS4 := HK.out _ F1))
                        | fail
              all_goals
                have b0' := (HK.out _ F1).1
                clear b0 b1 b2 b3 b4 b5 hS4
                go_wp2_with fail
                go_roundg (l.length - (j + 1))
                case measure => have := HJ.out; omega
                case rel =>
                  refine ⟨j + 1, p.s, by have := HJ.out; omega, by go_num, rfl, ?_, F0.tr F1⟩
                  rw [HJ.out.2, hd.out]
                  have h1 : oneV n d last p = true := by simp [oneV, hs, HR.out, HE.out, hv]
                  simp only [rightV]
                  rw [h1]
                  rfl
    · obtain rfl : j = l.length := by omega
      go_wp2_with fail
      go_ret
      refine ⟨?_, hfr⟩
      rw [HJ.out.2, List.drop_length]
      rfl
end Go.Proofs.Ytkpfgoalohbfeaa

/- Bytes and numbers in new memory; out. -/
namespace Go.Proofs.Ytkpfgoalohbfeaa
open Go.RowKit

theorem u8info : (Try.prog.info? 5).map (fun i => (i.zero, i.size, i.bytes)) = some (some (.int .u8 0), 1, 1) := by kernel_rfl
theorem i64info : (Try.prog.info? 3).map (fun i => (i.zero, i.size, i.bytes)) = some (some (.int .i64 0), 1, 8) := by kernel_rfl

/-- v is bytes in new memory. -/
def NewB (w w' : World) (v : Value) (bs : List UInt8) : Prop :=
  ∃ g cap, v = .slice (some ⟨g, 0, none⟩) bs.length cap ∧ w.heap.size ≤ g ∧ g < w'.heap.size ∧ w'.ownsRow 0 5 1 (.slice (some ⟨g, 0, none⟩) bs.length cap) bs.length (u8s bs) ∧ Fr (fun _ => False) w w'
theorem ap_new (w : World) (s : Value) (bs : List UInt8) (hs : Byt w s bs) (hl : bs.length ≤ 1000000) (ty : TypeId) (consts : Array Bool) :
    ∃ v' w', (builtin .append #[31, 31] ty consts #[.slice (some ⟨w.heap.size, 0, none⟩) 0 0, s]).run Try.prog (w.alloc (.cells #[] 5)) = .ok (.value v') w' ∧ NewB w w' v' bs := by
  obtain ⟨i0, hi0, hz0, hz1, hz2⟩ := info_parts u8info
  have hown0 : (w.alloc (.cells #[] 5)).ownsRow w.heap.size 5 1 (.slice (some ⟨w.heap.size, 0, none⟩) 0 0) 0 [] := by
    have := World.ownsRow_lit (base := w.heap.size) (e := 5) (size := 1) w #[] 0 (by simp) (by simp [maxLen]) rfl
    simpa using this
  obtain ⟨v', w', h1, h2⟩ := ap_byt (base := w.heap.size) (ty := ty) (P := Try.prog) Try.underlying31 hi0 hz0 hz1 hz2 rfl hown0 s bs (hs.alloc _) (by omega) (by simp) consts
  refine ⟨v', w', h1, ?_⟩
  obtain ⟨g, cap, rfl, hg⟩ := h2.form rfl
  have h3 := own_base h2.1
  simp only [Nat.zero_add, List.nil_append] at h3 ⊢
  have hlt := own_lt h3 rfl
  refine ⟨g, cap, rfl, ?_, hlt, h3, ?_⟩
  · rcases hg with rfl | rfl
    · exact Nat.le_refl _
    · simp
  · exact h2.fr ((Fr.refl _ w).alloc _) (fun k hk hlt => by simp [Value.ownBlock] at hk; omega)

/-- v is numbers in new memory. -/
def NewI (w w' : World) (v : Value) (l : List Int) : Prop :=
  ∃ g cap, v = .slice (some ⟨g, 0, none⟩) l.length cap ∧ w.heap.size ≤ g ∧ g < w'.heap.size ∧ w'.ownsRow 0 3 1 (.slice (some ⟨g, 0, none⟩) l.length cap) l.length (i64s l) ∧ Fr (fun _ => False) w w'
theorem ap_newi (w : World) (A : Option Addr) (c : Nat) (l : List Int) (hs : Ints w (.slice A l.length c) l) (hc : A = none → c = 0) (hl : l.length ≤ 1000) (ty : TypeId) (consts : Array Bool) :
    ∃ v' w', (builtin .append #[22, 22] ty consts #[.slice (some ⟨w.heap.size, 0, none⟩) 0 0, .slice A l.length c]).run Try.prog (w.alloc (.cells #[] 3)) = .ok (.value v') w' ∧ NewI w w' v' l := by
  obtain ⟨i0, hi0, hz0, hz1, hz2⟩ := info_parts i64info
  have hown0 : (w.alloc (.cells #[] 3)).ownsRow w.heap.size 3 1 (.slice (some ⟨w.heap.size, 0, none⟩) 0 0) 0 [] := by
    have := World.ownsRow_lit (base := w.heap.size) (e := 3) (size := 1) w #[] 0 (by simp) (by simp [maxLen]) rfl
    simpa using this
  obtain ⟨A', c', he, h1⟩ := hs.up ((Fr.refl (fun _ => False) w).alloc (.cells #[] 3))
  injection he with hA hb hc'
  subst hA
  have hfin : ∀ v' w', Appended w.heap.size 3 1 (w.alloc (.cells #[] 3)) (.slice (some ⟨w.heap.size, 0, none⟩) 0 0) 0 l.length [] (i64s l) v' w' → NewI w w' v' l := by
    intro v' w' h2
    obtain ⟨g, cap, rfl, hg⟩ := h2.form rfl
    have h3 := own_base h2.1
    simp only [Nat.zero_add, List.nil_append] at h3 ⊢
    have hlt := own_lt h3 rfl
    refine ⟨g, cap, rfl, ?_, hlt, h3, ?_⟩
    · rcases hg with rfl | rfl
      · exact Nat.le_refl _
      · simp
    · exact h2.fr ((Fr.refl _ w).alloc _) (fun k hk hlt => by simp [Value.ownBlock] at hk; omega)
  by_cases hn : l = []
  · subst hn
    cases A with
    | none =>
      have := hc rfl
      subst this
      have hr := run_append_owned_none (P := Try.prog) (w.alloc (.cells #[] 3)) w.heap.size 22 ty 3 i0 1 Try.underlying22 hi0 _ 0 [] hown0
      refine ⟨_, _, by simp only [builtin, Sem.run_bind, List.length_nil, hr, Result.andThen_ok, Sem.run_pure], hfin _ _ ⟨by simpa [i64s] using hown0, ⟨rfl, rfl, rfl, Nat.le_refl _, fun _ _ _ => rfl⟩, .inl rfl⟩⟩
    | some a =>
      obtain ⟨v', w', h1, h2⟩ := ap_cells (base := w.heap.size) (ty := ty) (P := Try.prog) Try.underlying22 hi0 hz0 hz1 hz2 rfl (by omega) hown0 a 0 c [] rfl (by simp) (by simp) (by simp [maxLen]) (by omega) (by simp) consts
      exact ⟨v', w', h1, hfin _ _ h2⟩
  · obtain ⟨b, off, rfl, h2⟩ := h1 hn
    obtain ⟨v', w', h1, h2⟩ := ap_cells (base := w.heap.size) (ty := ty) (P := Try.prog) Try.underlying22 hi0 hz0 hz1 hz2 rfl (by omega) hown0 ⟨b, off, none⟩ l.length c (i64s l) (by simp [i64s]) (by
      intro j u hu
      rw [add_none]
      have hj : j < l.length := by have := (List.getElem?_eq_some_iff.1 hu).1; simpa [i64s] using this
      have hg : l[j]? = some l[j] := List.getElem?_eq_getElem hj
      simp only [i64s, List.getElem?_map, hg, Option.map_some, Option.some.injEq] at hu
      subst hu
      exact h2 j _ hg) (by
      intro u hu
      simp only [i64s, List.mem_map] at hu
      obtain ⟨z, _, rfl⟩ := hu
      rfl) (by simp only [maxLen]; omega) (by omega) (by simp) consts
    exact ⟨v', w', h1, hfin _ _ h2⟩

/-- A vote's value. -/
def vtV (p : Vt) (s : Value) : Value := .agg #[.int .u64 p.s, .int .u64 p.n, .int .i64 p.d, s]

set_option maxHeartbeats 2000000 in
theorem out_any (p : Vt) (s : Value) (w : World) (hs : Byt w s p.v) (hl : p.v.length ≤ 1000000) :
    Calls Try.prog 74 #[vtV p s] w fun e w' => ∃ g cap, e = .returned (vtV p (.slice (some ⟨g, 0, none⟩) p.v.length cap)) ∧ w.heap.size ≤ g ∧ g < w'.heap.size ∧
      w'.ownsRow 0 5 1 (.slice (some ⟨g, 0, none⟩) p.v.length cap) p.v.length (u8s p.v) ∧ Fr (fun _ => False) w w' := by
  obtain ⟨ps, pn, pd, bs⟩ := p
  simp only [vtV] at hs hl ⊢
  have hs0 := hs
  obtain ⟨A, c, rfl, -, -⟩ := hs0
  obtain ⟨w3, hw3⟩ : ∃ w3, w3 = (w.alloc (.cells #[.int .u64 ps, .int .u64 pn, .int .i64 pd, .slice A bs.length c] 46)).alloc (.cells #[.int .u64 0, .int .u64 0, .int .i64 0, .slice none 0 0] 46) := ⟨_, rfl⟩
  have hs3 : Byt w3 (.slice A bs.length c) bs := by rw [hw3]; exact (hs.alloc _).alloc _
  have hb1 : Blk w3 w.heap.size 46 #[.int .u64 ps, .int .u64 pn, .int .i64 pd, .slice A bs.length c] := by rw [hw3]; exact (Blk.new _ _ _).alloc _
  have hb2 : Blk w3 (w.heap.size + 1) 46 #[.int .u64 0, .int .u64 0, .int .i64 0, .slice none 0 0] := by
    have := Blk.new (w.alloc (.cells #[.int .u64 ps, .int .u64 pn, .int .i64 pd, .slice A bs.length c] 46)) 46 #[.int .u64 0, .int .u64 0, .int .i64 0, .slice none 0 0]
    rw [hw3]; simpa using this
  have hz3 : w3.heap.size = w.heap.size + 2 := by rw [hw3]; simp
  have hf3 : Fr (fun _ => False) w w3 := by rw [hw3]; exact ((Fr.refl _ w).alloc _).alloc _
  have HW := Lib.hid hw3
  have HZ := Lib.hid hz3
  clear hw3 hz3
  have a0 : (w3.alloc (.cells #[] 5)).cell? ⟨w.heap.size, 3, none⟩ = some (.slice A bs.length c) := al_cell (hb1.cell 3 rfl) _
  go_enter Try.func74, Try.ntmps74
  go_upto_region 1 with (fail)
  rw [← HW.out]
  clear HW
  go_wp2_with (first
    | (at_builtin
       refine wpList_bi2 rfl .append _ _ _ _ _ rfl rfl rfl _ (ap_new w3 _ bs hs3 hl _) ?_
       rintro v' w1 ⟨g, cap, rfl, hg, hgl, ho, hf⟩
       have hb1' := hb1.fr hf (fun h => h)
       have hb2' := hb2.fr hf (fun h => h)
       clear a0
       have a0 := hb1'.cell 0 rfl
       have a1 := hb1'.cell 1 rfl
       have a2 := hb1'.cell 2 rfl
       have a3 := hb1'.frozen 3
       have a4 := hb1'.cell 3 rfl
       have b0 := hb2'.cell 0 rfl
       have b1 := hb2'.cell 1 rfl
       have b2 := hb2'.cell 2 rfl
       have b3 := hb2'.cell 3 rfl
       have b4 := hb2'.frozen))
  have hX : Fr (fun k => k = w.heap.size ∨ k = w.heap.size + 1) w1 (((((w1.setCell ⟨w.heap.size, 3, none⟩ (.slice (some ⟨g, 0, none⟩) bs.length cap)).setCell ⟨w.heap.size + 1, 0, none⟩ (.int .u64 ps)).setCell ⟨w.heap.size + 1, 1, none⟩ (.int .u64 pn)).setCell ⟨w.heap.size + 1, 2, none⟩ (.int .i64 pd)).setCell ⟨w.heap.size + 1, 3, none⟩ (.slice (some ⟨g, 0, none⟩) bs.length cap)) :=
    (((((Fr.refl _ w1).setCell (p := ⟨w.heap.size, 3, none⟩) (by simp) _).setCell (p := ⟨w.heap.size + 1, 0, none⟩) (by simp) _).setCell (p := ⟨w.heap.size + 1, 1, none⟩) (by simp) _).setCell (p := ⟨w.heap.size + 1, 2, none⟩) (by simp) _).setCell (p := ⟨w.heap.size + 1, 3, none⟩) (by simp) _
  have hB' := ((((hb2'.far (p := ⟨w.heap.size, 3, none⟩) (by simp) (.slice (some ⟨g, 0, none⟩) bs.length cap)).set_ 0 (.int .u64 ps)).set_ 1 (.int .u64 pn)).set_ 2 (.int .i64 pd)).set_ 3 (.slice (some ⟨g, 0, none⟩) bs.length cap)
  refine bodyPost_ret (results_cell_row rfl _ _ (w.heap.size + 1) 46 #[.int .u64 ps, .int .u64 pn, .int .i64 pd, .slice (some ⟨g, 0, none⟩) bs.length cap] (0, 0) _ rfl ?_ Try.underlying46 rfl (by kernel_rfl)) rfl ⟨g, cap, rfl, by have := HZ.out; omega, ?_, ?_, ?_⟩
  · show Blk _ (w.heap.size + 1) 46 _
    simpa using hB'
  · have := hX.size; omega
  · exact own_fr ho hX (fun k hk => by have := HZ.out; simp [Value.ownBlock] at hk; omega)
  · exact (hf3.tr hf).trans hX (fun k hk h => by rcases h with h | h; exact h; omega)
end Go.Proofs.Ytkpfgoalohbfeaa

/- New. -/
namespace Go.Proofs.Ytkpfgoalohbfeaa
open Go.RowKit

def newP (q : Qu) (n : Nat) (d : Int) (f : Nat) : Ps := ⟨q, n, d, f, 0, fun _ => none, fun _ => none⟩

set_option maxRecDepth 100000 in
set_option maxHeartbeats 4000000 in
theorem new_badq (q : Qu) (s : Value) (n : Nat) (d : Int) (f : Nat) (w : World) (hs : Ints w s q.s) (hl : q.s.length ≤ 1000) (h : ¬ rightE q = 0) :
    Calls Try.prog 37 #[q.v s, .agg #[.int .u64 n, .int .i64 d], .int .u64 f] w fun e w' => e = .returned (.tuple #[.pointer none, .int .i64 (rightE q)]) ∧ Fr (fun _ => False) w w' := by
  have HC := Lib.hid (right_any q s)
  obtain ⟨k, N, o, t, l⟩ := q
  have hs0 := hs
  obtain ⟨A, c, rfl, -⟩ := hs0
  have hf := ((Fr.refl (fun _ => False) w).alloc (.cells #[.int .i64 k, .int .i64 N, .int .i64 o, .int .i64 t, .slice A l.length c] 24)).alloc (.cells #[.int .u64 n, .int .i64 d] 44)
  have HF := Lib.hid (And.intro hf (hs.up hf))
  simp only [Qu.v] at hl HC ⊢
  obtain ⟨E, hE⟩ : ∃ E, E = rightE ⟨k, N, o, t, l⟩ := ⟨_, rfl⟩
  rw [← hE] at h HC ⊢
  have h' : (E == 0) = false := by simp [h]
  have h'' : (E != 0) = true := by simp [h]
  clear hf hs h hE
  go_enter Try.func37, Try.ntmps37
  go_wp2_with fail
  refine (HC.out _ HF.out.2 hl).mono ?_
  rintro e w2 ⟨rfl, hf2⟩
  go_wp2_with fail
  go_ret2
  exact ⟨rfl, HF.out.1.tr hf2⟩

set_option maxRecDepth 100000 in
set_option maxHeartbeats 4000000 in
theorem new_bad (q : Qu) (s : Value) (n : Nat) (d : Int) (f : Nat) (w : World) (hs : Ints w s q.s) (hl : q.s.length ≤ 1000) (h : rightE q = 0) (hb : rightB n d = false ∨ f = 0) :
    Calls Try.prog 37 #[q.v s, .agg #[.int .u64 n, .int .i64 d], .int .u64 f] w fun e w' => e = .returned (.tuple #[.pointer none, .int .i64 2]) ∧ Fr (fun _ => False) w w' := by
  have HC := Lib.hid (right_any q s)
  obtain ⟨k, N, o, t, l⟩ := q
  have hs0 := hs
  obtain ⟨A, c, rfl, -⟩ := hs0
  obtain ⟨w1, hw1⟩ : ∃ w1, w1 = (w.alloc (.cells #[.int .i64 k, .int .i64 N, .int .i64 o, .int .i64 t, .slice A l.length c] 24)).alloc (.cells #[.int .u64 n, .int .i64 d] 44) := ⟨_, rfl⟩
  have hf : Fr (fun _ => False) w w1 := by rw [hw1]; exact ((Fr.refl _ w).alloc _).alloc _
  have hb2 : Blk w1 (w.heap.size + 1) 44 #[.int .u64 n, .int .i64 d] := by
    have := Blk.new (w.alloc (.cells #[.int .i64 k, .int .i64 N, .int .i64 o, .int .i64 t, .slice A l.length c] 24)) 44 #[.int .u64 n, .int .i64 d]
    rw [hw1]; simpa using this
  have hb1 : Blk w1 w.heap.size 24 #[.int .i64 k, .int .i64 N, .int .i64 o, .int .i64 t, .slice A l.length c] := by rw [hw1]; exact (Blk.new _ _ _).alloc _
  have HF := Lib.hid (And.intro hf (hs.up hf))
  have HW := Lib.hid hw1
  have HE := Lib.hid h
  have HB := Lib.hid hb
  simp only [Qu.v] at hl HC ⊢
  clear hf hs hw1 h hb
  have b0 := hb1.cell 0 rfl
  have b1 := hb1.cell 1 rfl
  have b2 := hb1.cell 2 rfl
  have b3 := hb1.cell 3 rfl
  have b4 := hb1.cell 4 rfl
  go_enter Try.func37, Try.ntmps37
  go_upto_region 1 with (fail)
  rw [← HW.out]
  clear HW
  go_wp2_with fail
  refine (HC.out _ HF.out.2 hl).mono ?_
  rintro e w2 ⟨rfl, hf2⟩
  rw [HE.out]
  have hb2' := hb2.fr hf2 (fun h => h)
  clear b0 b1 b2 b3 b4
  have c0 := hb2'.cell 0 rfl
  have c1 := hb2'.cell 1 rfl
  go_wp2_with fail
  refine (aright_any n d _).mono ?_
  rintro e w3 ⟨rfl, hf3⟩
  cases hr : rightB n d with
  | false =>
    clear HB hr
    go_wp2_with fail
    go_ret2
    exact ⟨rfl, (HF.out.1.tr hf2).tr hf3⟩
  | true =>
    obtain rfl : f = 0 := by
      rcases HB.out with h | h
      · rw [hr] at h; cases h
      · exact h
    clear HB hr
    go_wp2_with fail
    go_ret2
    exact ⟨rfl, (HF.out.1.tr hf2).tr hf3⟩

set_option maxRecDepth 100000 in
set_option maxHeartbeats 4000000 in
theorem new_ok (q : Qu) (s : Value) (n : Nat) (d : Int) (f : Nat) (w : World) (hs : Ints w s q.s) (hnil : ∀ c, s = .slice none 0 c → c = 0) (hl : q.s.length ≤ 1000) (h : rightE q = 0) (hb : rightB n d = true) (hn : n < 18446744073709551616) (hf1 : 1 ≤ f) (hf64 : f < 18446744073709551616) :
    Calls Try.prog 37 #[q.v s, .agg #[.int .u64 n, .int .i64 d], .int .u64 f] w fun e w' => ∃ r, e = .returned (.tuple #[.pointer (some ⟨r, 0, none⟩), .int .i64 0]) ∧
      PR w' r (newP q n d f) 0 (fun k => w.heap.size ≤ k ∧ k < w'.heap.size) ∧ Fr (fun _ => False) w w' := by
  have HC := Lib.hid (right_any q s)
  obtain ⟨k, N, o, t, l⟩ := q
  have hs0 := hs
  obtain ⟨A, c, rfl, -⟩ := hs0
  obtain ⟨w1, hw1⟩ : ∃ w1, w1 = (w.alloc (.cells #[.int .i64 k, .int .i64 N, .int .i64 o, .int .i64 t, .slice A l.length c] 24)).alloc (.cells #[.int .u64 n, .int .i64 d] 44) := ⟨_, rfl⟩
  have hf : Fr (fun _ => False) w w1 := by rw [hw1]; exact ((Fr.refl _ w).alloc _).alloc _
  have hb2 : Blk w1 (w.heap.size + 1) 44 #[.int .u64 n, .int .i64 d] := by
    have := Blk.new (w.alloc (.cells #[.int .i64 k, .int .i64 N, .int .i64 o, .int .i64 t, .slice A l.length c] 24)) 44 #[.int .u64 n, .int .i64 d]
    rw [hw1]; simpa using this
  have hb1 : Blk w1 w.heap.size 24 #[.int .i64 k, .int .i64 N, .int .i64 o, .int .i64 t, .slice A l.length c] := by rw [hw1]; exact (Blk.new _ _ _).alloc _
  have HF := Lib.hid (And.intro hf (hs.up hf))
  have HW := Lib.hid hw1
  have HZ := Lib.hid (show w1.heap.size = w.heap.size + 2 by rw [hw1]; simp)
  have HE := Lib.hid h
  have HB := Lib.hid hb
  have HN := Lib.hid hnil
  simp only [Qu.v] at hl HC ⊢
  clear hf hs hw1 h hb hnil
  have hf0 : ((f : Int) == 0) = false := by simp; omega
  have b0 := hb1.cell 0 rfl
  have b1 := hb1.cell 1 rfl
  have b2 := hb1.cell 2 rfl
  have b3 := hb1.cell 3 rfl
  have b4 := hb1.cell 4 rfl
  have hmm := @run_makeMap Try.prog
  go_enter Try.func37, Try.ntmps37
  go_upto_region 1 with (fail)
  rw [← HW.out]
  clear HW
  go_wp2_with fail
  refine (HC.out _ HF.out.2 hl).mono ?_
  rintro e w2 ⟨rfl, hf2⟩
  rw [HE.out]
  have hb2' := hb2.fr hf2 (fun h => h)
  have hb1' := hb1.fr hf2 (fun h => h)
  have hs2 := HF.out.2.up hf2
  clear b0 b1 b2 b3 b4 hb1 hb2
  have c0 := hb2'.cell 0 rfl
  have c1 := hb2'.cell 1 rfl
  go_wp2_with fail
  refine (aright_any n d _).mono ?_
  rintro e w3 ⟨rfl, hf3⟩
  rw [HB.out]
  have hb2 := hb2'.fr hf3 (fun h => h)
  have hb1 := hb1'.fr hf3 (fun h => h)
  have hs3 := hs2.up hf3
  have hF3 := hf2.tr hf3
  clear c0 c1 hb1' hb2' hf2 hf3 hs2
  go_upto_region 6 with (fail)
  have a0 : (w3.alloc (.cells #[] 3)).cell? ⟨w.heap.size, 4, none⟩ = some (.slice A l.length c) := al_cell (hb1.cell 4 rfl) _
  have hc : A = none → c = 0 := by
    rintro rfl
    by_cases hn : l = []
    · subst hn; exact HN.out c rfl
    · obtain ⟨A', c', he, h2⟩ := hs3
      injection he with e1 _ _
      subst e1
      obtain ⟨_, _, h, _⟩ := h2 hn
      cases h
  have HCn := Lib.hid hc
  clear hc
  go_wp2_with (first
    | (at_builtin
       refine wpList_bi2 rfl .append _ _ _ _ _ rfl rfl rfl _ (ap_newi w3 A c l hs3 HCn.out hl _) ?_
       rintro v' w4 ⟨g, cap, rfl, hg, hgl, ho, hf4⟩
       have hb1' := hb1.fr hf4 (fun h => h)
       have hb2' := hb2.fr hf4 (fun h => h)
       clear a0
       have a0 := hb1'.cell 0 rfl
       have a1 := hb1'.cell 1 rfl
       have a2 := hb1'.cell 2 rfl
       have a3 := hb1'.cell 3 rfl
       have a4 := hb1'.cell 4 rfl
       have a5 := hb1'.frozen 4
       have d0 := hb2'.cell 0 rfl
       have d1 := hb2'.cell 1 rfl))
  go_ret2
  have hS := Fr.set1 w4 w.heap.size 4 (.slice (some ⟨g, 0, none⟩) l.length cap)
  obtain ⟨w5, hw5⟩ : ∃ w5, w5 = w4.setCell ⟨w.heap.size, 4, none⟩ (.slice (some ⟨g, 0, none⟩) l.length cap) := ⟨_, rfl⟩
  have hz5 : w5.heap.size = w4.heap.size := by rw [hw5]; simp
  rw [← hw5] at hS ⊢
  have hz := HZ.out
  have hsz3 := hF3.size
  have hlt3 : w.heap.size < w3.heap.size := by omega
  have hsz4 := hf4.size
  have hf5 : Fr (fun _ => False) w w5 := ((HF.out.1.tr hF3).tr hf4).trans hS (fun b hb h => by rcases h with h | h; exact h; omega)
  have ho5 := own_fr ho hS (fun k hk => by simp [Value.ownBlock] at hk; omega)
  have hA1 := Fr.alloc (Fr.refl (fun _ => False) w5) (.map #[] 0)
  have hA2 := hA1.alloc (.map #[] 0)
  have hm1 := Mp.made w5
  have hm2 := Mp.made (w5.alloc (.map #[] 0))
  have hB := Blk.new ((w5.alloc (.map #[] 0)).alloc (.map #[] 0)) 112 (prC (newP ⟨k, N, o, t, l⟩ n d f) (.slice (some ⟨g, 0, none⟩) l.length cap) w4.heap.size (w4.heap.size + 1))
  have hzA : (w5.alloc (.map #[] 0)).heap.size = w4.heap.size + 1 := by simp [hz5]
  have hzB : ((w5.alloc (.map #[] 0)).alloc (.map #[] 0)).heap.size = w4.heap.size + 1 + 1 := by simp [hz5]
  rw [hz5] at hm1
  rw [hzA] at hm2
  rw [hzB] at hB
  refine ⟨w4.heap.size + 1 + 1, rfl, ⟨.slice (some ⟨g, 0, none⟩) l.length cap, w4.heap.size, w4.heap.size + 1, fun _ => none, fun _ => none, ?_⟩, ?_⟩
  · refine ⟨hB, ?_, ?_, ?_, ?_, ?_, by omega, ?_, ?_, fun k => .inl ⟨rfl, rfl⟩, fun k => .inl ⟨rfl, rfl⟩, (fun k k2 g h => by cases h), ?_⟩
    · exact own_fr (hf := (hA2.alloc _)) ho5 (fun _ _ h => h)
    · intro k hk
      simp only [Value.ownBlock] at hk
      injection hk with hk
      simp
      omega
    · simp; omega
    · simp; omega
    · simp; omega
    · exact hm1.fr ((Fr.refl (fun _ => False) _).alloc _ |>.alloc _) (fun h => h)
    · exact hm2.fr ((Fr.refl (fun _ => False) _).alloc _) (fun h => h)
    · exact ⟨ok_of HE.out, hl, HB.out, hn, hf1, hf64, Nat.zero_lt_succ _, (fun k v nd h => by cases h), (fun k v X h => by cases h)⟩
  · exact hf5.tr (hA2.alloc _)
end Go.Proofs.Ytkpfgoalohbfeaa

/- Ready, Must, Chosen, Accepted of one that is there. -/
namespace Go.Proofs.Ytkpfgoalohbfeaa
open Go.RowKit

theorem zero_must (w : World) : (zeroValue 125).run Try.prog w = .ok (.agg #[.int .u64 0, .int .u64 0, .int .i64 0, .slice none 0 0, .int .i64 0]) w := by kernel_rfl
theorem zero_slot (w : World) : (zeroValue 127).run Try.prog w = .ok (.pointer none) w := by kernel_rfl

def readyB (p : Ps) : Bool := isQ p.q false p.set.testBit

set_option maxRecDepth 100000 in
set_option maxHeartbeats 4000000 in
theorem ready_any (r : Nat) (p : Ps) (c : Nat) (G : Nat → Prop) (w : World) (h : PR w r p c G) :
    Calls Try.prog 59 #[.pointer (some ⟨r, 0, none⟩)] w fun e w' => e = .returned (.bool (readyB p)) ∧ Fr (fun _ => False) w w' := by
  obtain ⟨sv, mb, sb, mm, sm, h⟩ := h
  have hst := h.wf.st
  have hl := h.wf.ql
  have hs := ints_own h.site
  have HC := Lib.hid (fun (s : Value) => first_any p.q s p.set (by omega))
  obtain ⟨q, n, d, f, set, mu, sl⟩ := p
  obtain ⟨k, N, o, t, l⟩ := q
  simp only [readyB] at hl hs HC ⊢
  have c0 : w.cell? ⟨r, 0, none⟩ = some (.int .i64 k) := h.blk.cell 0 rfl
  have c1 : w.cell? ⟨r, 1, none⟩ = some (.int .i64 N) := h.blk.cell 1 rfl
  have c2 : w.cell? ⟨r, 2, none⟩ = some (.int .i64 o) := h.blk.cell 2 rfl
  have c3 : w.cell? ⟨r, 3, none⟩ = some (.int .i64 t) := h.blk.cell 3 rfl
  have c4 : w.cell? ⟨r, 4, none⟩ = some sv := h.blk.cell 4 rfl
  have c8 : w.cell? ⟨r, 8, none⟩ = some (.int .u32 set) := h.blk.cell 8 rfl
  have hs0 := hs
  obtain ⟨A, cc, rfl, -⟩ := hs0
  have HS := Lib.hid hs
  clear h hst hs
  go_enter Try.func59, Try.ntmps59
  go_upto_region 1 with (fail)
  go_region_held3 (fun wx => Fr (fun _ => False) w wx ∧ wx.cell? ⟨r, 0, none⟩ = some (.int .i64 k) ∧ wx.cell? ⟨r, 1, none⟩ = some (.int .i64 N) ∧ wx.cell? ⟨r, 2, none⟩ = some (.int .i64 o) ∧ wx.cell? ⟨r, 3, none⟩ = some (.int .i64 t) ∧ wx.cell? ⟨r, 4, none⟩ = some (.slice A l.length cc) ∧ wx.cell? ⟨r, 8, none⟩ = some (.int .u32 set)) (first | exact ⟨(Fr.refl _ _).drew, c0, c1, c2, c3, c4, c8⟩ | exact hS4)
    (first
      | (go_at_call 71
         refine (HC.out _ _ (HS.out.up ((Fr.refl _ w).drew)) hl).mono ?_
         rintro e w4 ⟨rfl, hf4⟩
         have hf5 := hf4.of_drew
         have hS4 : Fr (fun _ => False) w w4 ∧ w4.cell? ⟨r, 0, none⟩ = some (.int .i64 k) ∧ w4.cell? ⟨r, 1, none⟩ = some (.int .i64 N) ∧ w4.cell? ⟨r, 2, none⟩ = some (.int .i64 o) ∧ w4.cell? ⟨r, 3, none⟩ = some (.int .i64 t) ∧ w4.cell? ⟨r, 4, none⟩ = some (.slice A l.length cc) ∧ w4.cell? ⟨r, 8, none⟩ = some (.int .u32 set) :=
           ⟨hf5, hf5.cell c0 (fun h => h), hf5.cell c1 (fun h => h), hf5.cell c2 (fun h => h), hf5.cell c3 (fun h => h), hf5.cell c4 (fun h => h), hf5.cell c8 (fun h => h)⟩))
  all_goals
    clear c0 c1 c2 c3 c4 c8 hS4
    go_wp2_with fail
    go_ret
    exact ⟨rfl, hf5⟩

/-- Bytes in new memory, or none; and whether there are any. -/
def ResB (w w' : World) (x : Option (List UInt8)) (e : Ending) : Prop :=
  ∃ va vc, e = .returned (.tuple #[.slice va (x.getD []).length vc, .bool x.isSome]) ∧ w'.ownsRow w.heap.size 5 1 (.slice va (x.getD []).length vc) (x.getD []).length (u8s (x.getD [])) ∧ Fr (fun _ => False) w w'
theorem NewB.res {w0 w w' : World} {v : Value} {bs : List UInt8} (h : NewB w w' v bs) (hf : Fr (fun _ => False) w0 w) : ∃ va vc, v = .slice va bs.length vc ∧ w'.ownsRow w0.heap.size 5 1 (.slice va bs.length vc) bs.length (u8s bs) ∧ Fr (fun _ => False) w0 w' := by
  obtain ⟨g, cap, rfl, h1, h2, h3, h4⟩ := h
  have := hf.size
  exact ⟨_, _, rfl, own_up h3 (fun k hk => by simp [Value.ownBlock] at hk; omega), hf.tr h4⟩

/-- What has to be proposed there. -/
def muB (p : Ps) (k : Nat) : Option (List UInt8) := (p.mu k).map fun x => x.1.v
/-- What is chosen there. -/
def chB (p : Ps) (k : Nat) : Option (List UInt8) := (p.sl k).bind fun x => if isQ p.q true x.2.testBit then some x.1.v else none

end Go.Proofs.Ytkpfgoalohbfeaa

/- Chosen, Accepted, Prefix. -/
namespace Go.Proofs.Ytkpfgoalohbfeaa
open Go.RowKit

theorem wrap64u (n : Int) : IntKind.u64.wrap n = n % 18446744073709551616 := by
  simp [IntKind.wrap, IntKind.signed, IntKind.bits]

set_option maxRecDepth 100000 in
set_option maxHeartbeats 4000000 in
theorem chosen_any (r : Nat) (p : Ps) (c : Nat) (G : Nat → Prop) (k : Nat) (hk : k < 18446744073709551616) (w : World) (h : PR w r p c G) :
    Calls Try.prog 63 #[.pointer (some ⟨r, 0, none⟩), .int .u64 k] w fun e w' => ResB w w' (chB p k) e := by
  obtain ⟨sv, mb, sb, mm, sm, h⟩ := h
  have c10 : w.cell? ⟨r, 10, none⟩ = some (.map (some sb)) := h.blk.cell 10 rfl
  have hlk := h.sls.look key64 Try.underlying42 Try.underlying109 (zero_slot w) k hk
  have hv := h.wf.sl k
  have hl := h.wf.ql
  unfold ResB chB
  rcases h.sl k with ⟨hm, hy⟩ | ⟨v, X, g, s, hm, hy, hB, hg, ho⟩
  · rw [hy] at hlk
    rw [hm]
    simp only [Option.getD_none, Option.isSome_none, Option.bind_none, List.length_nil] at hlk ⊢
    clear h hv hm hy
    go_enter Try.func63, Try.ntmps63
    go_upto_region 4 with (fail)
    go_region
    go_wp2_with fail
    go_ret2
    exact ⟨none, 0, rfl, World.ownsRow_nil _ _ _ _, (Fr.refl _ w).drew⟩
  · rw [hy] at hlk
    rw [hm]
    obtain ⟨-, -, hvl, hX, -⟩ := hv v X hm
    simp only [Option.getD_some, Option.isSome_some, Option.bind_some] at hlk ⊢
    have hby := ho.byt
    have hby0 := hby
    obtain ⟨A, cc, rfl, -, -⟩ := hby0
    have hs := ints_own h.site
    have HC := Lib.hid (fun (s : Value) => second_any p.q s X (by omega))
    obtain ⟨q, n, d, f, set, mu, sl⟩ := p
    obtain ⟨qk, N, o, t, l⟩ := q
    simp only at hl hs HC ⊢
    have c0 : w.cell? ⟨r, 0, none⟩ = some (.int .i64 qk) := h.blk.cell 0 rfl
    have c1 : w.cell? ⟨r, 1, none⟩ = some (.int .i64 N) := h.blk.cell 1 rfl
    have c2 : w.cell? ⟨r, 2, none⟩ = some (.int .i64 o) := h.blk.cell 2 rfl
    have c3 : w.cell? ⟨r, 3, none⟩ = some (.int .i64 t) := h.blk.cell 3 rfl
    have c4 : w.cell? ⟨r, 4, none⟩ = some sv := h.blk.cell 4 rfl
    have g3 : w.cell? ⟨g, 3, none⟩ = some (.slice A v.v.length cc) := hB.cell 3 rfl
    have g4 : w.cell? ⟨g, 4, none⟩ = some (.int .u32 X) := hB.cell 4 rfl
    obtain ⟨Z, hZ⟩ : ∃ Z, Z = (if isQ ⟨qk, N, o, t, l⟩ true X.testBit = true then some v.v else none) := ⟨_, rfl⟩
    rw [← hZ]
    have HZ := Lib.hid hZ
    clear hZ
    have hs0 := hs
    obtain ⟨B, bc, rfl, -⟩ := hs0
    have HS := Lib.hid (And.intro hs hby)
    clear h hv hm hy ho hB hby hs
    go_enter Try.func63, Try.ntmps63
    go_upto_region 4 with (fail)
    go_region_held3 (fun wx => Fr (fun _ => False) w wx ∧ wx.cell? ⟨r, 0, none⟩ = some (.int .i64 qk) ∧ wx.cell? ⟨r, 1, none⟩ = some (.int .i64 N) ∧ wx.cell? ⟨r, 2, none⟩ = some (.int .i64 o) ∧ wx.cell? ⟨r, 3, none⟩ = some (.int .i64 t) ∧ wx.cell? ⟨r, 4, none⟩ = some (.slice B l.length bc) ∧ wx.cell? ⟨g, 4, none⟩ = some (.int .u32 X)) (first | exact ⟨(Fr.refl _ _).drew, c0, c1, c2, c3, c4, g4⟩ | exact hS4)
      (first
        | (go_at_call 75
           refine (HC.out _ _ (HS.out.1.up ((Fr.refl _ w).drew)) hl).mono ?_
           rintro e w4 ⟨rfl, hf4⟩
           have hf5 := hf4.of_drew
           have hS4 : Fr (fun _ => False) w w4 ∧ w4.cell? ⟨r, 0, none⟩ = some (.int .i64 qk) ∧ w4.cell? ⟨r, 1, none⟩ = some (.int .i64 N) ∧ w4.cell? ⟨r, 2, none⟩ = some (.int .i64 o) ∧ w4.cell? ⟨r, 3, none⟩ = some (.int .i64 t) ∧ w4.cell? ⟨r, 4, none⟩ = some (.slice B l.length bc) ∧ w4.cell? ⟨g, 4, none⟩ = some (.int .u32 X) :=
             ⟨hf5, hf5.cell c0 (fun h => h), hf5.cell c1 (fun h => h), hf5.cell c2 (fun h => h), hf5.cell c3 (fun h => h), hf5.cell c4 (fun h => h), hf5.cell g4 (fun h => h)⟩))
    all_goals
      have hby4 := HS.out.2.fr hf5 (fun _ _ h => h)
      have a0 : (w4.alloc (.cells #[] 5)).cell? ⟨g, 3, none⟩ = some (.slice A v.v.length cc) := al_cell (hf5.cell g3 (fun h => h)) _
      have HF := Lib.hid hf5
      clear c0 c1 c2 c3 c4 g3 g4 hS4 c10 hlk hf4 hf5
      cases hq : isQ ⟨qk, N, o, t, l⟩ true X.testBit with
      | false =>
        have HQ := Lib.hid hq
        clear hq
        go_wp2_with fail
        go_ret2
        rw [HZ.out, HQ.out]
        exact ⟨none, 0, rfl, World.ownsRow_nil _ _ _ _, HF.out⟩
      | true =>
        have HQ := Lib.hid hq
        clear hq
        go_wp2_with (first
          | (at_builtin
             refine wpList_bi2 rfl .append _ _ _ _ _ rfl rfl rfl _ (ap_new w4 _ v.v hby4 (by omega) _) ?_
             rintro v' w5 hN
             obtain ⟨va, vc, rfl, ho, hf2⟩ := hN.res HF.out))
        go_ret2
        rw [HZ.out, HQ.out]
        exact ⟨va, vc, rfl, ho, hf2⟩

/-- Is it chosen there? -/
def isCh (p : Ps) (k : Nat) : Bool := (chB p k).isSome
theorem isCh_big {w : World} {G : Nat → Prop} {r c : Nat} {p : Ps} (h : PR w r p c G) : isCh p 18446744073709551616 = false := by
  cases hs : p.sl 18446744073709551616 with
  | none => simp [isCh, chB, hs]
  | some x => have := (h.wf.sl _ x.1 x.2 hs).2.1; omega
/-- at is the first that is not chosen. -/
def PreAt (p : Ps) (at' : Nat) : Prop := p.f ≤ at' ∧ (∀ j, p.f ≤ j → j < at' → isCh p j = true) ∧ isCh p at' = false
theorem PreAt.inj {p : Ps} {a b : Nat} (h : PreAt p a) (h' : PreAt p b) : a = b := by
  rcases Nat.lt_trichotomy a b with hl | hl | hl
  · have := h'.2.1 a h.1 hl; rw [h.2.2] at this; cases this
  · exact hl
  · have := h.2.1 b h'.1 hl; rw [h'.2.2] at this; cases this

end Go.Proofs.Ytkpfgoalohbfeaa

/- Accepted. -/
namespace Go.Proofs.Ytkpfgoalohbfeaa
open Go.RowKit

def accE (p : Ps) (x : Int) (k : Nat) : Int := if nodeB p x then (if (p.sl k).isSome then 0 else 4) else 2
def accP (p : Ps) (x : Int) (k : Nat) : Ps := if nodeB p x then (match p.sl k with | some (v, X) => { p with sl := upd p.sl k (v, X ||| 2 ^ x.toNat) } | none => p) else p

theorem or_lt (X j : Nat) (hX : X < 4096) (hj : j < 12) : X ||| 2 ^ j < 4096 := Nat.or_lt_two_pow (n := 12) hX (Nat.pow_lt_pow_right (by omega) hj)

theorem or_bit (X x : Nat) (hX : X < 4096) (hx : x < 12) : bits .or .u32 (X : Int) ((2 : Int) ^ x % 4294967296) = ((X ||| 2 ^ x : Nat) : Int) := by
  have h : (2 : Nat) ^ x ≤ 2 ^ 12 := Nat.pow_le_pow_right (by omega) (by omega)
  rw [pow_int (by omega), u32_or_nat _ _ (by omega) (by omega)]

/-- What one more who accepted leaves. -/
theorem PX.acc {w : World} {G : Nat → Prop} {r c : Nat} {p : Ps} {sv : Value} {mb sb : Nat} {mm sm : Nat → Option Value} (h : PX w r p c G sv mb sb mm sm) {k X g : Nat} {v : Vt} {s : Value} (hm : p.sl k = some (v, X))
    (hy : sm k = some (.pointer (some ⟨g, 0, none⟩))) (hB : Blk w g 131 (slC v X s)) (hg : G g) (ho : OwB w G s v.v) (Z : Nat) (hZ : Z < 4096) :
    PX (w.setCell ⟨g, 4, none⟩ (.int .u32 Z)) r { p with sl := upd p.sl k (v, Z) } c G sv mb sb mm sm := by
  have hf := Fr.set1 w g 4 (.int .u32 Z)
  have hrg : r ≠ g := h.blk.ne_ hB (by decide)
  have hobyte : ∀ {s : Value} {bs : List UInt8}, OwB w G s bs → OwB (w.setCell ⟨g, 4, none⟩ (.int .u32 Z)) G s bs := fun ho => ⟨own_fr ho.1 hf (own_blk_ne ho.1 hB (by decide)), ho.2⟩
  refine ⟨h.blk.fr hf hrg, own_fr h.site hf (own_blk_ne h.site hB (by decide)), h.siteG, h.rG, h.mbG, h.sbG, h.ne, h.mus.fr hf (fun e => h.mus.blk_ne hB e.symm), h.sls.fr hf (fun e => h.sls.blk_ne hB e.symm), fun j => ?_, fun j => ?_, h.inj, ?_⟩
  · rcases h.mu j with h1 | ⟨v', nd, s', h1, h2, h3⟩
    · exact .inl h1
    · exact .inr ⟨v', nd, s', h1, h2, hobyte h3⟩
  · by_cases hj : j = k
    · subst hj
      refine .inr ⟨v, Z, g, s, by simp [upd], hy, ?_, hg, hobyte ho⟩
      have := hB.set_ 4 (.int .u32 Z)
      simpa [slC] using this
    · rcases h.sl j with ⟨h1, h2⟩ | ⟨v', Y, g', s', h1, h2, h3, h4, h5⟩
      · exact .inl ⟨by simp [upd, hj, h1], h2⟩
      · have hne : g' ≠ g := fun e => hj (h.inj j k g (by rw [h2, e]) hy)
        exact .inr ⟨v', Y, g', s', by simp [upd, hj, h1], h2, h3.fr hf hne, h4, hobyte h5⟩
  · have W := h.wf
    refine ⟨W.ok, W.ql, W.rb, W.n64, W.f1, W.f64, W.st, W.mu, fun j v' Y hj => ?_⟩
    by_cases hjk : j = k
    · subst hjk
      simp only [upd, if_pos, Option.some.injEq, Prod.mk.injEq] at hj
      obtain ⟨rfl, rfl⟩ := hj
      obtain ⟨a, b, c, _, d⟩ := W.sl j v X hm
      exact ⟨a, b, c, hZ, d⟩
    · simp only [upd, if_neg hjk] at hj
      exact W.sl j v' Y hj

set_option maxRecDepth 100000 in
set_option maxHeartbeats 4000000 in
theorem acc_any (r : Nat) (p : Ps) (c : Nat) (G : Nat → Prop) (x : Int) (k : Nat) (hk : k < 18446744073709551616) (w : World) (h : PR w r p c G) :
    Calls Try.prog 62 #[.pointer (some ⟨r, 0, none⟩), .int .i64 x, .int .u64 k] w fun e w' => e = .returned (.int .i64 (accE p x k)) ∧ PR w' r (accP p x k) c G ∧ Fr G w w' := by
  have hx := h
  obtain ⟨sv, mb, sb, mm, sm, h⟩ := h
  have c1 : w.cell? ⟨r, 1, none⟩ = some (.int .i64 p.q.n) := h.blk.cell 1 rfl
  have c10 : w.cell? ⟨r, 10, none⟩ = some (.map (some sb)) := h.blk.cell 10 rfl
  have hlk := h.sls.look key64 Try.underlying42 Try.underlying109 (zero_slot w) k hk
  unfold accE accP
  cases hb : nodeB p x with
  | false =>
    have HB := Lib.hid hb
    have HX := Lib.hid hx
    clear h hb hx hlk
    simp only [Bool.false_eq_true, if_false]
    go_enter Try.func62, Try.ntmps62
    go_wp2_with fail
    refine (node_any r p x w c1).mono ?_
    rintro e w1 ⟨rfl, rfl⟩
    rw [HB.out]
    go_wp2_with fail
    go_ret
    exact ⟨rfl, HX.out, Fr.refl _ _⟩
  | true =>
    have HB := Lib.hid hb
    simp only [if_true]
    have hn12 := h.wf.ok.n
    simp only [nodeB, decide_eq_true_eq] at hb
    rcases h.sl k with ⟨hm, hy⟩ | ⟨v, X, g, s, hm, hy, hB, hg, ho⟩
    · rw [hy] at hlk
      rw [hm]
      simp only [Option.getD_none, Option.isSome_none] at hlk ⊢
      have HX := Lib.hid hx
      clear h hm hy hx hb
      go_enter Try.func62, Try.ntmps62
      go_wp2_with fail
      refine (node_any r p x w c1).mono ?_
      rintro e w1 ⟨rfl, rfl⟩
      rw [HB.out]
      go_wp2_with fail
      go_ret
      exact ⟨rfl, HX.out, Fr.refl _ _⟩
    · rw [hy] at hlk
      rw [hm]
      obtain ⟨x, rfl⟩ := Int.eq_ofNat_of_zero_le hb.1
      have hx12 : x < 12 := by omega
      obtain ⟨-, -, hvl, hX, -⟩ := h.wf.sl k v X hm
      simp only [Option.getD_some, Option.isSome_some] at hlk ⊢
      have HP := Lib.hid (PX.acc h hm hy hB hg ho (X ||| 2 ^ x) (or_lt X x hX hx12))
      have HG := Lib.hid hg
      have g4 : w.cell? ⟨g, 4, none⟩ = some (.int .u32 X) := hB.cell 4 rfl
      have f4 := hB.frozen 4
      clear h hm hy hx ho hB hb
      go_enter Try.func62, Try.ntmps62
      go_wp2_with fail
      refine (node_any r p x w c1).mono ?_
      rintro e w1 ⟨rfl, rfl⟩
      rw [HB.out]
      go_upto_region 8 with (fail)
      go_region
      rw [or_bit X x hX hx12]
      go_wp2_with fail
      go_ret
      exact ⟨rfl, ⟨_, _, _, _, _, HP.out.fr (Fr.refl (fun _ => False) _).drew (fun _ _ _ h => h)⟩, ((Fr.set1 w g 4 _).mono (fun k _ e => by subst e; exact HG.out)).drew⟩
end Go.Proofs.Ytkpfgoalohbfeaa

/- Top; those that are not there. -/
namespace Go.Proofs.Ytkpfgoalohbfeaa
open Go.RowKit Go.MapKept

/-- t is the last slot of which something has to be. -/
def TopAt (p : Ps) (t : Nat) : Prop := (∀ k, (p.mu k).isSome → k ≤ t) ∧ (t = 0 ∨ (p.mu t).isSome)
theorem TopAt.inj {p : Ps} {a b : Nat} (h : TopAt p a) (h' : TopAt p b) : a = b := by
  rcases h.2 with h1 | h1
  · rcases h'.2 with h2 | h2
    · omega
    · have := h.1 b h2; omega
  · have := h'.1 a h1
    rcases h'.2 with h2 | h2
    · omega
    · have := h.1 b h2; omega

/-- Any element reads as a mark. -/
def anyR (_ : Value) : Option (DataW Unit × List MemPlace) := some (.lit (.bool true), [])
theorem ranges_has {w : World} {b r n cnt : Nat} {D : DataW Unit} {left : Lit → Bool} (h : w.ranges Try.prog 42 anyR b r n D left cnt) {kl : Lit} (hl : left kl = true) : Maps.has D kl = true := by
  obtain ⟨es, cl, since, seen, c0, hb, hF, hs, rfl, _, _, _, _, h2, _⟩ := h
  obtain ⟨x, hx, rfl⟩ := h2 kl hl
  refine List.any_eq_true.2 ⟨_, mem_sorted.2 (List.mem_map.2 ⟨x, hx, rfl⟩), ?_⟩
  obtain ⟨y, hy⟩ := hF.reads x hx
  rw [Go.WideElems.rg_of hy]
  exact WideAt.sameKey_self (key64.key (Go.WideElems.rd_key hy))
set_option maxRecDepth 100000 in
theorem Mp.owns {w : World} {b n : Nat} {m : Nat → Option Value} (h : Mp w b n m) (hn : n ≤ maxLen) : ∃ D : DataW Unit, w.ownsMap Try.prog 42 anyR b n D ∧ ∀ kl : Lit, Maps.has D kl = true ↔ ∃ k : Nat, kl = .int .u64 (k : Int) ∧ (m k).isSome = true := by
  obtain ⟨es, cl, hb, h1, h2, h3, h4⟩ := h
  have hrd : ∀ x ∈ es.toList, ∃ k : Nat, x.key = .int .u64 (k : Int) ∧ (m k).isSome = true ∧ Go.WideElems.rd (H := Unit) Try.prog 42 anyR x = some (.int .u64 (k : Int), .lit (.bool true)) := fun x hx => by
    obtain ⟨k, hk, hx', hv⟩ := h3 x hx
    refine ⟨k, hx', by rw [hv]; rfl, ?_⟩
    unfold Go.WideElems.rd
    rw [hx', Maps.keyOf_int_mk Try.underlying42 (u64wf k hk)]
    rfl
  have hF : Go.WideElems.Fit Try.prog 42 anyR es cl := ⟨by omega, h1, fun x hx => by obtain ⟨k, _, _, h⟩ := hrd x hx; exact ⟨_, h⟩⟩
  refine ⟨_, ⟨es, cl, hb, hF, h2, rfl⟩, fun kl => ?_⟩
  constructor
  · intro h
    obtain ⟨q, hq, hqk⟩ := List.any_eq_true.1 h
    obtain ⟨x, hx, rfl⟩ := List.mem_map.1 (mem_sorted.1 hq)
    obtain ⟨k, _, hs, hr⟩ := hrd x hx
    have := WideAt.sameKey_eq hqk
    rw [Go.WideElems.rg_of hr] at this
    exact ⟨k, this.symm, hs⟩
  · rintro ⟨k, rfl, hs⟩
    obtain ⟨v, hv⟩ := Option.isSome_iff_exists.1 hs
    obtain ⟨x, hx, hxk⟩ := h4 k v hv
    obtain ⟨k', hk', _, hr⟩ := hrd x hx
    have hkk : (k : Int) = (k' : Int) := by rw [hxk] at hk'; injection hk'
    rw [hkk]
    refine List.any_eq_true.2 ⟨_, mem_sorted.2 (List.mem_map.2 ⟨x, hx, rfl⟩), ?_⟩
    rw [Go.WideElems.rg_of hr]
    exact WideAt.sameKey_self trivial

/-! ### those that are not there -/
def zeroVt : Vt := ⟨0, 0, 0, []⟩
theorem ready_nil (w : World) : Calls Try.prog 59 #[.pointer none] w fun e w' => e = .returned (.bool false) ∧ Fr (fun _ => False) w w' := by
  go_enter Try.func59, Try.ntmps59
  go_upto_region 1 with (fail)
  go_region
  go_wp2_with fail
  go_ret
  exact ⟨rfl, (Fr.refl _ w).drew⟩
theorem chosen_nil (k : Nat) (w : World) : Calls Try.prog 63 #[.pointer none, .int .u64 k] w fun e w' => e = .returned (.tuple #[.slice none 0 0, .bool false]) ∧ w = w' := by
  go_enter Try.func63, Try.ntmps63
  go_wp2_with fail
  go_ret2
  exact ⟨rfl, rfl⟩
theorem acc_nil (x : Int) (k : Nat) (w : World) : Calls Try.prog 62 #[.pointer none, .int .i64 x, .int .u64 k] w fun e w' => e = .returned (.int .i64 1) ∧ w = w' := by
  go_enter Try.func62, Try.ntmps62
  go_wp2_with fail
  go_ret
  exact ⟨rfl, rfl⟩
end Go.Proofs.Ytkpfgoalohbfeaa

