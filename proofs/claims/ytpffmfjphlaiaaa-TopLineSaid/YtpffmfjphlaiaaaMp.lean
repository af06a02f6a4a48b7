/- A map of uint64s, by what it has at each key. -/
import Derived.Test.YtpffmfjphlaiaaaNetA
import Derived.Maps.OwnOps
import Derived.Maps.RangeWalk
namespace Go.Proofs.Ytpffmfjphlaiaaa
open Go.RowKit Go.MapKept
open Go.ChangeMaps (setBlock modify_eq_set heap_setBlock_same heap_setBlock_other)
open Go.Maps (Keyed)

/-- Block b is a map of at most n uint64s; m: what it has at each. -/
def Mp (w : World) (b n : Nat) (m : Nat → Option Value) : Prop :=
  ∃ es clock, w.heap[b]? = some (.map es clock) ∧ Stamped es clock ∧ es.size ≤ n ∧
    (∀ x ∈ es.toList, ∃ k : Nat, k < 18446744073709551616 ∧ x.key = .int .u64 k ∧ m k = some x.val) ∧ (∀ k v, m k = some v → ∃ x ∈ es.toList, x.key = .int .u64 (k : Nat))

/-- The same but at k. -/
def upd {α : Type} (m : Nat → Option α) (k : Nat) (v : α) : Nat → Option α := fun j => if j = k then some v else m j

section
variable {w w' : World} {b n : Nat} {m : Nat → Option Value} {X : Nat → Prop}
theorem Mp.lt (h : Mp w b n m) : b < w.heap.size := by obtain ⟨es, cl, hb, _⟩ := h; exact (Array.getElem?_eq_some_iff.1 hb).1
theorem Mp.fr (h : Mp w b n m) (hf : Fr X w w') (hx : ¬ X b) : Mp w' b n m := by
  have hl := h.lt
  obtain ⟨es, cl, hb, r⟩ := h
  exact ⟨es, cl, (hf.block b hl hx).trans hb, r⟩
theorem Mp.mono (h : Mp w b n m) {n' : Nat} (hn : n ≤ n') : Mp w b n' m := by
  obtain ⟨es, cl, hb, h1, h2, r⟩ := h
  exact ⟨es, cl, hb, h1, Nat.le_trans h2 hn, r⟩
theorem Mp.blk_ne {g : Nat} {t : TypeId} {cs : Array Value} (h : Mp w b n m) (hg : Blk w g t cs) : g ≠ b := by
  rintro rfl
  obtain ⟨es, cl, hb, _⟩ := h
  unfold Blk at hg
  rw [hb] at hg
  cases hg
theorem Mp.own_ne {base : Nat} {e : TypeId} {size : Nat} {v : Value} {k : Nat} {xs : List Value} (h : Mp w b n m) (hg : w.ownsRow base e size v k xs) : ∀ j, v.ownBlock = some j → j ≠ b := by
  rcases hg.2 with ⟨rfl, _⟩ | ⟨g, cap, cur, rfl, _, hh, _⟩
  · simp [Value.ownBlock]
  · intro j hj
    simp only [Value.ownBlock] at hj
    injection hj with hj
    subst hj
    exact h.blk_ne (t := e) hh
theorem Mp.u64 (h : Mp w b n m) {k : Nat} {v : Value} (hk : m k = some v) : k < 18446744073709551616 := by
  obtain ⟨es, cl, _, _, _, h1, h2⟩ := h
  obtain ⟨x, hx, hxk⟩ := h2 k v hk
  obtain ⟨k', hk', hx', _⟩ := h1 x hx
  rw [hxk] at hx'
  injection hx' with _ hx'
  omega
theorem Mp.made (w : World) : Mp (w.alloc (.map #[] 0)) w.heap.size 0 (fun _ => none) :=
  ⟨#[], 0, (MapKept.heap_alloc w _).1, stamped_empty 0, by simp, by simp, by simp⟩
end

theorem u64wf (k : Nat) (hk : k < 18446744073709551616) : (Lit.int .u64 (k : Int)).wf = true := by
  simp [Lit.wf, IntKind.min, IntKind.max, IntKind.signed, IntKind.bits]; omega

section
variable {P : Program} {w : World} {b n : Nat} {m : Nat → Option Value} {t kt e : TypeId}
theorem Mp.find (h : Mp w b n m) (K : Keyed P kt) (hkt : P.underlying kt = some (.int .u64)) (k : Nat) (hk : k < 18446744073709551616) :
    ∃ es clock, w.heap[b]? = some (.map es clock) ∧ (((Instr.findKey kt (.int .u64 k) es.toList).run P w = .ok none w ∧ m k = none) ∨
      ∃ (j : Nat) (e : MapEntry), (Instr.findKey kt (.int .u64 k) es.toList).run P w = .ok (some (j, e.val)) w ∧ m k = some e.val) := by
  obtain ⟨es, cl, hb, h1, h2, h3, h4⟩ := h
  have keys : ∀ x ∈ es.toList, ∃ l, keyOf P kt x.key = some l := fun x hx => by
    obtain ⟨k', hk', hx', _⟩ := h3 x hx
    rw [hx']
    exact ⟨_, Maps.keyOf_int_mk hkt (u64wf k' hk')⟩
  refine ⟨es, cl, hb, ?_⟩
  rcases K.find w (Maps.keyOf_int_mk hkt (u64wf k hk)) es.toList keys with ⟨f1, f2⟩ | ⟨j, e0, f1, f2, f3⟩
  · refine .inl ⟨f1, ?_⟩
    cases hm : m k with
    | none => rfl
    | some v =>
      obtain ⟨x, hx, hxk⟩ := h4 k v hm
      exact absurd hxk (f2 x hx)
  · refine .inr ⟨j, e0, f1, ?_⟩
    obtain ⟨k', hk', hx', hv⟩ := h3 e0 (List.mem_of_getElem? f2)
    rw [f3] at hx'
    injection hx' with _ hx'
    have : k = k' := by omega
    rw [this]; exact hv
/-- 'v, ok := m[k]'. -/
theorem Mp.look (h : Mp w b n m) (K : Keyed P kt) (hkt : P.underlying kt = some (.int .u64)) (ht : P.underlying t = some (.map kt e)) {z : Value} (hz : (zeroValue e).run P w = .ok z w) (k : Nat) (hk : k < 18446744073709551616) :
    (Instr.lookup t (.map (some b)) (.int .u64 k) true).run P w = .ok (.tuple #[(m k).getD z, .bool (m k).isSome]) w := by
  obtain ⟨es, cl, hb, hf⟩ := h.find K hkt k hk
  have hc := K.check w true (Maps.keyOf_int_mk hkt (u64wf k hk))
  have hc' := K.check w false (Maps.keyOf_int_mk hkt (u64wf k hk))
  rcases hf with ⟨f1, f2⟩ | ⟨j, e0, f1, f2⟩
  · simp [Instr.lookup, run_underlying ht, MapKept.run_getObj_map hb, K.check w _ (Maps.keyOf_int_mk hkt (u64wf k hk)), f1, hz, Result.andThen, f2]
  · simp [Instr.lookup, run_underlying ht, MapKept.run_getObj_map hb, K.check w _ (Maps.keyOf_int_mk hkt (u64wf k hk)), f1, Result.andThen, f2]
/-- 'm[k] = v'. -/
theorem Mp.update (h : Mp w b n m) (K : Keyed P kt) (hkt : P.underlying kt = some (.int .u64)) (ht : P.underlying t = some (.map kt e)) (hn : n < maxLen) (k : Nat) (hk : k < 18446744073709551616) (v : Value) :
    ∃ w', (Instr.mapUpdate t (.map (some b)) (.int .u64 k) v).run P w = .ok () w' ∧ Mp w' b (n + 1) (upd m k v) ∧ Fr (fun j => j = b) w w' ∧ w'.heap.size = w.heap.size := by
  obtain ⟨es, cl, hb, h1, h2, h3, h4⟩ := h
  have hkey := Maps.keyOf_int_mk (P := P) hkt (u64wf k hk)
  have keys : ∀ x ∈ es.toList, ∃ l, keyOf P kt x.key = some l := fun x hx => by
    obtain ⟨k', hk', hx', _⟩ := h3 x hx
    rw [hx']
    exact ⟨_, Maps.keyOf_int_mk hkt (u64wf k' hk')⟩
  have hfr : ∀ o, Fr (fun j => j = b) w (setBlock w b o) := fun o => ⟨rfl, rfl, rfl, by simp [setBlock], fun i _ hi => heap_setBlock_other hb _ hi⟩
  have hinj : ∀ {i j : Nat}, Value.int .u64 (i : Int) = Value.int .u64 (j : Int) → i = j := fun h => by injection h with _ h; omega
  rcases K.find w hkey es.toList keys with ⟨f1, f2⟩ | ⟨j, e0, f1, f2, f3⟩
  · refine ⟨setBlock w b (.map (es.push ⟨.int .u64 k, v, cl⟩) (cl + 1)), ?_, ⟨_, _, heap_setBlock_same hb _, stamped_push h1 f2, by simp; omega, ?_, ?_⟩, hfr _, by simp [setBlock]⟩
    · have hroom : es.size < maxLen := by omega
      simp [Instr.mapUpdate, run_underlying ht, MapKept.run_getObj_map hb, K.check w false hkey, f1, MapKept.run_setObj_map _ hb, Result.andThen, setBlock]
    · intro x hx
      simp only [Array.toList_push, List.mem_append, List.mem_singleton] at hx
      rcases hx with hx | rfl
      · obtain ⟨k', hk', hx', hv⟩ := h3 x hx
        refine ⟨k', hk', hx', ?_⟩
        have : k' ≠ k := by rintro rfl; exact f2 x hx hx'
        rw [upd, if_neg this]; exact hv
      · exact ⟨k, hk, rfl, by simp [upd]⟩
    · intro k' v' hv
      by_cases hkk : k' = k
      · subst hkk
        exact ⟨⟨.int .u64 k', v, cl⟩, by simp, rfl⟩
      · rw [upd, if_neg hkk] at hv
        obtain ⟨x, hx, hxk⟩ := h4 k' v' hv
        exact ⟨x, by simp [Array.toList_push, hx], hxk⟩
  · have hj : es[j]? = some e0 := by simpa using f2
    have hjl : j < es.toList.length := (List.getElem?_eq_some_iff.1 f2).1
    have hkeyf : ∀ e', es[j]? = some e' → ({ e' with key := .int .u64 k, val := v } : MapEntry).key = e'.key := fun e' he' => by rw [hj] at he'; cases he'; exact f3.symm
    have hlist : (es.modify j (fun e' : MapEntry => { e' with key := .int .u64 k, val := v })).toList = es.toList.set j { e0 with key := .int .u64 k, val := v } := by rw [Array.toList_modify, modify_eq_set _ _ _ _ f2]
    have hpw := ((stamped_iff es cl).1 h1).2.2
    refine ⟨setBlock w b (.map (es.modify j (fun e' : MapEntry => { e' with key := .int .u64 k, val := v })) cl), ?_, ⟨_, _, heap_setBlock_same hb _, stamped_modify h1 _ _ (fun _ _ => rfl) (fun e' _ he' => hkeyf e' he'), by simp; omega, ?_, ?_⟩, hfr _, by simp [setBlock]⟩
    · simp [Instr.mapUpdate, run_underlying ht, MapKept.run_getObj_map hb, K.check w false hkey, f1, hj, f3, K.stays w hkey, MapKept.run_setObj_map _ hb, Result.andThen, setBlock]
    · intro x hx
      rw [hlist] at hx
      obtain ⟨i, hi, ex⟩ := List.getElem_of_mem hx
      rw [List.getElem_set] at ex
      split at ex
      · subst ex
        exact ⟨k, hk, rfl, by simp [upd]⟩
      · rename_i hne
        have hi' : i < es.toList.length := by simpa using hi
        have hxm : x ∈ es.toList := ex ▸ List.getElem_mem hi'
        obtain ⟨k', hk', hx', hv⟩ := h3 x hxm
        refine ⟨k', hk', hx', ?_⟩
        have : k' ≠ k := by
          rintro rfl
          have hpi := List.pairwise_iff_getElem.1 hpw
          have e1 : es.toList[j] = e0 := by rw [List.getElem?_eq_getElem hjl] at f2; exact Option.some.inj f2
          rcases Nat.lt_or_gt_of_ne hne with h | h
          · exact hpi j i hjl hi' h (by rw [e1, ex, f3, hx'])
          · exact hpi i j hi' hjl h (by rw [e1, ex, f3, hx'])
        rw [upd, if_neg this]; exact hv
    · intro k' v' hv
      rw [hlist]
      by_cases hkk : k' = k
      · subst hkk
        exact ⟨{ e0 with key := .int .u64 k', val := v }, List.mem_iff_getElem.2 ⟨j, by simpa using hjl, by simp⟩, rfl⟩
      · rw [upd, if_neg hkk] at hv
        obtain ⟨x, hx, hxk⟩ := h4 k' v' hv
        obtain ⟨i, hi⟩ := List.getElem?_of_mem hx
        have hij : i ≠ j := by
          rintro rfl
          rw [f2] at hi
          cases hi
          rw [f3] at hxk
          exact hkk (hinj hxk).symm
        exact ⟨x, List.mem_of_getElem? ((by rw [List.getElem?_set_ne (fun h => hij h.symm)]; exact hi : _[i]? = _)), hxk⟩
end

/-! ### 'm[k] = v' as a step -/
section
variable {P : Program} {ops : Array Oper} {rest : List Oper} {o : Oper} {a : Act} {w : World} {K : Act → World → Prop} {Q : Exit → Act → World → Prop} {b n : Nat} {m : Nat → Option Value} {t kt e : TypeId}
theorem wp_mapUpdate (h : Mp w b n m) (L : Keyed P kt) (hkt : P.underlying kt = some (.int .u64)) (ht : P.underlying t = some (.map kt e)) (hn : n < maxLen) (k : Nat) (hk : k < 18446744073709551616) (v : Value)
    (mo ko vo : Operand) (hop : o.op = Op.mapUpdate t mo ko vo) (hm : a.eval mo = .map (some b)) (hx : a.eval ko = .int .u64 k) (hv : a.eval vo = v)
    (hK : ∀ w', Mp w' b (n + 1) (upd m k v) → Fr (fun j => j = b) w w' → w'.heap.size = w.heap.size → K (a.put o.dst undef) w') : o.wp P a w K Q := by
  obtain ⟨w', hrun, h1, h2, h3⟩ := h.update L hkt ht hn k hk v
  unfold Oper.wp
  simp [execOp, hop, hm, hx, hv, hrun, Result.andThen]
  exact hK w' h1 h2 h3
theorem wpList_mapUpdate (hgd : o.guard = none) (h : Mp w b n m) (L : Keyed P kt) (hkt : P.underlying kt = some (.int .u64)) (ht : P.underlying t = some (.map kt e)) (hn : n < maxLen) (k : Nat) (hk : k < 18446744073709551616) (v : Value)
    (mo ko vo : Operand) (hop : o.op = Op.mapUpdate t mo ko vo) (hm : a.eval mo = .map (some b)) (hx : a.eval ko = .int .u64 k) (hv : a.eval vo = v)
    (hK : ∀ w', Mp w' b (n + 1) (upd m k v) → Fr (fun j => j = b) w w' → w'.heap.size = w.heap.size → wpList P ops Q rest (a.put o.dst undef) w') : wpList P ops Q (o :: rest) a w :=
  wpList_plain hgd fun _ hK' => wp_mapUpdate h L hkt ht hn k hk v mo ko vo hop hm hx hv fun w' h1 h2 h3 => hK' _ _ (hK w' h1 h2 h3)
theorem step_mapUpdate {E : Prop} (hgd : o.guard = none) (h : Mp w b n m) (L : Keyed P kt) (hkt : P.underlying kt = some (.int .u64)) (ht : P.underlying t = some (.map kt e)) (hn : n < maxLen) (k : Nat) (hk : k < 18446744073709551616) (v : Value)
    (mo ko vo : Operand) (hop : o.op = Op.mapUpdate t mo ko vo) (hm : a.eval mo = .map (some b)) (hx : a.eval ko = .int .u64 k) (hv : a.eval vo = v)
    (hK : ∀ w', Mp w' b (n + 1) (upd m k v) → Fr (fun j => j = b) w w' → w'.heap.size = w.heap.size → K (a.put o.dst undef) w') :
    if Region.wanted o (yielded ops a.tmps) = true then Oper.wp P o a w K Q else E := by
  have hw : Region.wanted o (yielded ops a.tmps) = true := by simp [Region.wanted, hgd]
  rw [if_pos hw]
  exact wp_mapUpdate h L hkt ht hn k hk v mo ko vo hop hm hx hv hK
end

/-! ### delete, clear -/
def strike {α : Type} (m : Nat → Option α) (k : Nat) : Nat → Option α := fun j => if j = k then none else m j
section
variable {P : Program} {w : World} {b n : Nat} {m : Nat → Option Value} {t kt e : TypeId}
theorem Mp.delete (h : Mp w b n m) (K : Keyed P kt) (hkt : P.underlying kt = some (.int .u64)) (ht : P.underlying t = some (.map kt e)) (k : Nat) (hk : k < 18446744073709551616) (ty : TypeId) (consts : Array Bool) :
    ∃ v w', (builtin .delete #[t, kt] ty consts #[.map (some b), .int .u64 k]).run P w = .ok (.value v) w' ∧ Mp w' b n (strike m k) ∧ Fr (fun j => j = b) w w' := by
  obtain ⟨es, cl, hb, h1, h2, h3, h4⟩ := h
  have hkey := Maps.keyOf_int_mk (P := P) hkt (u64wf k hk)
  have keys : ∀ x ∈ es.toList, ∃ l, keyOf P kt x.key = some l := fun x hx => by
    obtain ⟨k', hk', hx', _⟩ := h3 x hx
    rw [hx']
    exact ⟨_, Maps.keyOf_int_mk hkt (u64wf k' hk')⟩
  have hfr : ∀ o, Fr (fun j => j = b) w (setBlock w b o) := fun o => ⟨rfl, rfl, rfl, by simp [setBlock], fun i _ hi => heap_setBlock_other hb _ hi⟩
  have hinj : ∀ {i j : Nat}, Value.int .u64 (i : Int) = Value.int .u64 (j : Int) → i = j := fun h => by injection h with _ h; omega
  rcases K.find w hkey es.toList keys with ⟨f1, f2⟩ | ⟨j, e0, f1, f2, f3⟩
  · refine ⟨.tuple #[], setBlock w b (.map es cl), ?_, ⟨es, cl, heap_setBlock_same hb _, h1, h2, fun x hx => ?_, fun k' v hv => ?_⟩, hfr _⟩
    · simp [builtin, Builtin.delete_, run_underlying ht, MapKept.run_getObj_map hb, K.check w _ hkey, f1, MapKept.run_setObj_map _ hb, Result.andThen, setBlock]
    · obtain ⟨k', hk', hx', hv⟩ := h3 x hx
      refine ⟨k', hk', hx', ?_⟩
      have : k' ≠ k := by rintro rfl; exact f2 x hx hx'
      rw [strike, if_neg this]; exact hv
    · by_cases hkk : k' = k
      · rw [strike, if_pos hkk] at hv; cases hv
      · rw [strike, if_neg hkk] at hv; exact h4 k' v hv
  · have hjl : j < es.toList.length := (List.getElem?_eq_some_iff.1 f2).1
    have hjs : j < es.size := by simpa using hjl
    have hsub : (es.eraseIdxIfInBounds j).toList = es.toList.eraseIdx j := by
      unfold Array.eraseIdxIfInBounds
      rw [dif_pos hjs]
      simp
    have hpw := ((stamped_iff es cl).1 h1).2.2
    refine ⟨.tuple #[], setBlock w b (.map (es.eraseIdxIfInBounds j) cl), ?_, ⟨_, cl, heap_setBlock_same hb _, stamped_erase h1 j, Nat.le_trans (MapFrom.size_erase es j) h2, fun x hx => ?_, fun k' v hv => ?_⟩, hfr _⟩
    · simp [builtin, Builtin.delete_, run_underlying ht, MapKept.run_getObj_map hb, K.check w _ hkey, f1, MapKept.run_setObj_map _ hb, Result.andThen, setBlock]
    · rw [hsub, List.mem_eraseIdx_iff_getElem?] at hx
      obtain ⟨i, hne, hi⟩ := hx
      obtain ⟨k', hk', hx', hv⟩ := h3 x (List.mem_of_getElem? hi)
      refine ⟨k', hk', hx', ?_⟩
      have : k' ≠ k := by
        rintro rfl
        have hil := (List.getElem?_eq_some_iff.1 hi).1
        have hpi := List.pairwise_iff_getElem.1 hpw
        have e1 : es.toList[j] = e0 := by rw [List.getElem?_eq_getElem hjl] at f2; exact Option.some.inj f2
        have e2 : es.toList[i] = x := by rw [List.getElem?_eq_getElem hil] at hi; exact Option.some.inj hi
        rcases Nat.lt_or_gt_of_ne hne with h | h
        · exact hpi i j hil hjl h (by rw [e1, e2, f3, hx'])
        · exact hpi j i hjl hil h (by rw [e1, e2, f3, hx'])
      rw [strike, if_neg this]; exact hv
    · by_cases hkk : k' = k
      · rw [strike, if_pos hkk] at hv; cases hv
      · rw [strike, if_neg hkk] at hv
        obtain ⟨x, hx, hxk⟩ := h4 k' v hv
        obtain ⟨i, hi⟩ := List.getElem?_of_mem hx
        have hij : i ≠ j := by
          rintro rfl
          rw [f2] at hi
          cases hi
          rw [f3] at hxk
          exact hkk (hinj hxk).symm
        exact ⟨x, by rw [hsub, List.mem_eraseIdx_iff_getElem?]; exact ⟨i, hij, hi⟩, hxk⟩
theorem Mp.clear (h : Mp w b n m) (ht : P.underlying t = some (.map kt e)) (ty : TypeId) (consts : Array Bool) :
    ∃ v w', (builtin .clear #[t] ty consts #[.map (some b)]).run P w = .ok (.value v) w' ∧ Mp w' b 0 (fun _ => none) ∧ Fr (fun j => j = b) w w' := by
  obtain ⟨es, cl, hb, h1, h2, h3, h4⟩ := h
  have hfr : ∀ o, Fr (fun j => j = b) w (setBlock w b o) := fun o => ⟨rfl, rfl, rfl, by simp [setBlock], fun i _ hi => heap_setBlock_other hb _ hi⟩
  refine ⟨.tuple #[], setBlock w b (.map #[] cl), ?_, ⟨#[], cl, heap_setBlock_same hb _, stamped_empty cl, by simp, by simp, by simp⟩, hfr _⟩
  simp [builtin, Builtin.clear_, run_underlying ht, MapKept.run_getObj_map hb, MapKept.run_setObj_map _ hb, Result.andThen, setBlock]
end

theorem key64 : Keyed Try.prog 47 := Maps.int_keyed Try.underlying47
end Go.Proofs.Ytpffmfjphlaiaaa
