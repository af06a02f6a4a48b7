/- Merged: Mem QP QA QB QC. -/
import Derived.WalkKit
import Derived.WalkSpells
import Derived.WalkLawsBesides
import Derived.BigQuiet
import Derived.Deep.QuietTactic
import Derived.Deep.RegionHeld3
import Derived.Deep.LoopGhost
import Derived.Deep.DeepCutAuto
import Derived.Deep.CutBlock
import Derived.Maps.AppendAt
import Derived.Laws.BytesArg
import Derived.Lib.Hide
import Derived.Lib.Tables
import Derived.KernelRfl
import Derived.Test.YtkpfgoalohbfeaaChecked
import Derived.IntWalk
import Derived.Laws.BitsAllLaws
/- Plain lemmas on memory, over any program: frames by sets of blocks, byte slices that read as lists, append from any source, rows. -/
namespace Go.Proofs.Ytkpfgoalohbfeaa
open Go.RowKit

/-- Only the blocks of X may have turned; new ones may have come. -/
structure Fr (X : Nat → Prop) (w w' : World) : Prop where
  os : w'.os = w.os
  tape : w'.tape = w.tape
  output : w'.output = w.output
  size : w.heap.size ≤ w'.heap.size
  block : ∀ k, k < w.heap.size → ¬ X k → w'.heap[k]? = w.heap[k]?

section
variable {X Y Z : Nat → Prop} {w w1 w2 : World}
theorem Fr.refl (X : Nat → Prop) (w : World) : Fr X w w := ⟨rfl, rfl, rfl, Nat.le_refl _, fun _ _ _ => rfl⟩
theorem Fr.trans (h : Fr X w w1) (k : Fr Y w1 w2) (hz : ∀ b, b < w.heap.size → X b ∨ Y b → Z b) : Fr Z w w2 :=
  ⟨k.os.trans h.os, k.tape.trans h.tape, k.output.trans h.output, Nat.le_trans h.size k.size, fun b hb hn =>
    (k.block b (Nat.lt_of_lt_of_le hb h.size) (fun hy => hn (hz b hb (.inr hy)))).trans (h.block b hb (fun hx => hn (hz b hb (.inl hx))))⟩
theorem Fr.mono (h : Fr X w w1) (hz : ∀ b, b < w.heap.size → X b → Z b) : Fr Z w w1 := ⟨h.os, h.tape, h.output, h.size, fun b hb hn => h.block b hb fun hx => hn (hz b hb hx)⟩
theorem Fr.tr (h : Fr X w w1) (k : Fr X w1 w2) : Fr X w w2 := h.trans k fun _ _ h => h.elim id id
theorem Fr.drewN (h : Fr X w w1) (n : Nat) : Fr X w (w1.drewN n) := ⟨h.os, h.tape, h.output, h.size, h.block⟩
theorem Fr.drew (h : Fr X w w1) : Fr X w w1.drew := ⟨h.os, h.tape, h.output, h.size, h.block⟩
theorem Fr.of_drew (h : Fr X w.drew w1) : Fr X w w1 := ⟨h.os, h.tape, h.output, h.size, h.block⟩
theorem Fr.of_drewN {n : Nat} (h : Fr X (w.drewN n) w1) : Fr X w w1 := ⟨h.os, h.tape, h.output, h.size, h.block⟩
theorem Fr.alloc (h : Fr X w w1) (o : Obj) : Fr X w (w1.alloc o) :=
  ⟨h.os, h.tape, h.output, Nat.le_trans h.size (by simp), fun b hb hn => (Below.heap_alloc _ _ _ (Nat.lt_of_lt_of_le hb h.size)).trans (h.block b hb hn)⟩
theorem Fr.setCell (h : Fr X w w1) {p : Addr} (hp : p.block < w.heap.size → X p.block) (u : Value) : Fr X w (w1.setCell p u) :=
  ⟨h.os, h.tape, h.output, by simpa using h.size, fun b hb hn => (Below.heap_setCell _ _ _ _ (by rintro rfl; exact hn (hp hb))).trans (h.block b hb hn)⟩
theorem Fr.setRow (h : Fr X w w1) {g : Nat} (hp : g < w.heap.size → X g) (cs : Array Value) : Fr X w (w1.setRow g cs) :=
  ⟨h.os, h.tape, h.output, by simpa [World.setRow] using h.size, fun b hb hn => (setRow_other _ _ _ _ (by rintro rfl; exact hn (hp hb))).trans (h.block b hb hn)⟩
theorem Fr.grown (h : Fr X w w1) {row : Option Nat} (hg : w1.grownBy w2 row) (hr : ∀ k, row = some k → k < w.heap.size → X k) : Fr X w w2 :=
  ⟨hg.os.trans h.os, hg.tape.trans h.tape, hg.output.trans h.output, Nat.le_trans h.size hg.size, fun b hb hn =>
    (hg.block b (Nat.lt_of_lt_of_le hb h.size) (fun e => hn (hr b e.symm hb))).trans (h.block b hb hn)⟩
theorem Fr.below {B : Nat} (h : Fr (fun k => B ≤ k) w w1) (hB : B ≤ w.heap.size) : Below B w w1 :=
  ⟨h.os, h.tape, h.output, h.size, fun k hk => h.block k (by omega) (by omega)⟩
theorem Fr.of_below {B : Nat} (h : Below B w w1) : Fr (fun k => B ≤ k) w w1 := ⟨h.os, h.tape, h.output, h.size, fun k _ hn => h.block k (by omega)⟩
theorem Fr.cell (h : Fr X w w1) {p : Addr} {u : Value} (hc : w.cell? p = some u) (hx : ¬ X p.block) : w1.cell? p = some u :=
  (World.cell?_of_block (h.block p.block (World.block_lt_of_cell? w p hc) hx)).trans hc
/-- Nothing that was there has turned. -/
theorem Fr.none_up (h : Fr (fun _ => False) w w1) : Fr X w w1 := h.mono fun _ _ h => h.elim
theorem Fr.set1 (w : World) (b i : Nat) (u : Value) : Fr (fun k => k = b) w (w.setCell ⟨b, i, none⟩ u) := Fr.setCell (X := fun k => k = b) (Fr.refl _ w) (p := ⟨b, i, none⟩) (fun _ => rfl) u
end

theorem al_cell {w : World} {p : Addr} {u : Value} (h : w.cell? p = some u) (o : Obj) : (w.alloc o).cell? p = some u := (World.cell?_alloc_lt w o p (World.block_lt_of_cell? w p h)).trans h

/-! ### A block that is known whole -/
def Blk (w : World) (g : Nat) (t : TypeId) (cs : Array Value) : Prop := w.heap[g]? = some (.cells cs t (0, 0))
section
variable {w w' : World} {g : Nat} {t : TypeId} {cs : Array Value} {X : Nat → Prop}
theorem Blk.lt (h : Blk w g t cs) : g < w.heap.size := (Array.getElem?_eq_some_iff.1 h).1
theorem Blk.cell (h : Blk w g t cs) (i : Nat) {u : Value} (hu : cs[i]? = some u) : w.cell? ⟨g, i, none⟩ = some u := by unfold Blk at h; simp [World.cell?, h, hu]
theorem Blk.frozen (h : Blk w g t cs) (i : Nat) : w.frozen? ⟨g, i, none⟩ = false := by unfold Blk at h; simp [World.frozen?, h]
theorem Blk.new (w : World) (t : TypeId) (cs : Array Value) : Blk (w.alloc (.cells cs t)) w.heap.size t cs := by
  show (w.heap.push _)[w.heap.size]? = _; simp
theorem Blk.set_ (h : Blk w g t cs) (i : Nat) (u : Value) : Blk (w.setCell ⟨g, i, none⟩ u) g t (cs.setIfInBounds i u) := by
  unfold Blk at h ⊢; simp [World.setCell, Array.getElem?_modify, h]
theorem Blk.far (h : Blk w g t cs) {p : Addr} (hp : g ≠ p.block) (u : Value) : Blk (w.setCell p u) g t cs := (Below.heap_setCell w p u g hp).trans h
theorem Blk.alloc (h : Blk w g t cs) (o : Obj) : Blk (w.alloc o) g t cs := (Below.heap_alloc w o g h.lt).trans h
theorem Blk.drew (h : Blk w g t cs) : Blk w.drew g t cs := h
theorem Blk.drewN (h : Blk w g t cs) (n : Nat) : Blk (w.drewN n) g t cs := h
theorem Blk.fr (h : Blk w g t cs) (hf : Fr X w w') (hx : ¬ X g) : Blk w' g t cs := (hf.block g h.lt hx).trans h
theorem Blk.ne_ {g' : Nat} {t' : TypeId} {cs' : Array Value} (h : Blk w g t cs) (h' : Blk w g' t' cs') (hne : t ≠ t') : g ≠ g' := by
  rintro rfl
  unfold Blk at h h'
  rw [h] at h'
  injection h' with h'
  injection h' with _ ht
  exact hne ht
end

/-! ### Rows that a call owns -/
section
variable {w w' : World} {base : Nat} {e : TypeId} {size : Nat} {v : Value} {n : Nat} {xs : List Value} {X : Nat → Prop}
theorem own_fr (h : w.ownsRow base e size v n xs) (hf : Fr X w w') (hx : ∀ k, v.ownBlock = some k → ¬ X k) : w'.ownsRow base e size v n xs := by
  refine ⟨h.1, ?_⟩
  rcases h.2 with hn | ⟨g, cap, cur, rfl, hb, hg, r⟩
  · exact .inl hn
  · exact .inr ⟨g, cap, cur, rfl, hb, (hf.block g (Array.getElem?_eq_some_iff.1 hg).1 (hx g rfl)).trans hg, r⟩
theorem own_base (h : w.ownsRow base e size v n xs) : w.ownsRow 0 e size v n xs := by
  refine ⟨h.1, ?_⟩
  rcases h.2 with hn | ⟨g, cap, cur, rfl, hb, r⟩
  · exact .inl hn
  · exact .inr ⟨g, cap, cur, rfl, Nat.zero_le _, r⟩
theorem own_up (h : w.ownsRow 0 e size v n xs) (hb : ∀ k, v.ownBlock = some k → base ≤ k) : w.ownsRow base e size v n xs := by
  refine ⟨h.1, ?_⟩
  rcases h.2 with hn | ⟨g, cap, cur, rfl, _, r⟩
  · exact .inl hn
  · exact .inr ⟨g, cap, cur, rfl, hb g rfl, r⟩
theorem own_lt (h : w.ownsRow base e size v n xs) {k : Nat} (hk : v.ownBlock = some k) : k < w.heap.size := (h.lt k hk).2
theorem own_blk_ne {g : Nat} {t : TypeId} {cs : Array Value} (h : w.ownsRow base e size v n xs) (hg : Blk w g t cs) (hne : e ≠ t) : ∀ k, v.ownBlock = some k → k ≠ g := by
  rcases h.2 with ⟨rfl, _⟩ | ⟨g', cap, cur, rfl, _, hh, _⟩
  · simp [Value.ownBlock]
  · intro k hk
    have : g' = k := by simpa [Value.ownBlock] using hk
    subst this
    exact Blk.ne_ (t := e) hh hg hne
theorem own_own_ne {base' : Nat} {e' : TypeId} {size' : Nat} {v' : Value} {n' : Nat} {xs' : List Value} (h : w.ownsRow base e size v n xs) (h' : w.ownsRow base' e' size' v' n' xs') (hne : e ≠ e') :
    ∀ k k', v.ownBlock = some k → v'.ownBlock = some k' → k ≠ k' := by
  intro k k' hk hk'
  rcases h'.2 with ⟨rfl, _⟩ | ⟨g', cap, cur, rfl, _, hh, _⟩
  · simp [Value.ownBlock] at hk'
  · have : g' = k' := by simpa [Value.ownBlock] using hk'
    subst this
    exact own_blk_ne h (show Blk w g' e' cur from hh) hne k hk
/-- The form of an owned value that owns something. -/
theorem own_form (h : w.ownsRow base e size v n xs) : (v = .slice none 0 0 ∧ n = 0 ∧ xs = []) ∨
    ∃ g cap cur, v = .slice (some ⟨g, 0, none⟩) n cap ∧ base ≤ g ∧ Blk w g e cur ∧ n ≤ cap ∧ cap ≤ maxLen ∧ cur.size = cap * size ∧ cur.toList.take (n * size) = xs := by
  rcases h.2 with ⟨rfl, rfl⟩ | hh
  · exact .inl ⟨rfl, rfl, List.eq_nil_of_length_eq_zero (by simpa using h.1)⟩
  · exact .inr hh
theorem own_cell {g cap : Nat} (h : w.ownsRow base e size (.slice (some ⟨g, 0, none⟩) n cap) n xs) (j : Nat) {u : Value} (hu : xs[j]? = some u) : w.cell? ⟨g, j, none⟩ = some u := by
  have hj : j < n * size := by
    have := (List.getElem?_eq_some_iff.1 hu).1
    rw [h.1] at this; exact this
  rw [h.cellAt j hj, hu]
theorem own_mk {g cap : Nat} {cur : Array Value} (hg : Blk w g e cur) (hn : n ≤ cap) (hc : cap ≤ maxLen) (hs : cur.size = cap * size) (hx : cur.toList.take (n * size) = xs) :
    w.ownsRow 0 e size (.slice (some ⟨g, 0, none⟩) n cap) n xs :=
  ⟨by rw [← hx, List.length_take, Array.length_toList, hs]; exact Nat.min_eq_left (Nat.mul_le_mul_right _ hn), .inr ⟨g, cap, cur, rfl, Nat.zero_le _, hg, hn, hc, hs, hx⟩⟩
end

/-! ### Bytes -/
def u8s (bs : List UInt8) : List Value := bs.map fun b => .int .u8 (b.toNat : Int)
@[simp] theorem u8s_length (bs : List UInt8) : (u8s bs).length = bs.length := by simp [u8s]
theorem u8s_get (bs : List UInt8) (i : Nat) {u : UInt8} (h : bs[i]? = some u) : (u8s bs)[i]? = some (.int .u8 (u.toNat : Int)) := by simp [u8s, h]
theorem u8s_one (bs : List UInt8) : ∀ u ∈ u8s bs, u.oneCell' = true := by
  intro u hu
  simp only [u8s, List.mem_map] at hu
  obtain ⟨b, _, rfl⟩ := hu
  rfl
theorem u8s_append (a b : List UInt8) : u8s (a ++ b) = u8s a ++ u8s b := by simp [u8s]

/-- The slice value v reads as the bytes bs. -/
def Byt (w : World) (v : Value) (bs : List UInt8) : Prop :=
  ∃ A c, v = .slice A bs.length c ∧ (A = none → c = 0) ∧ (bs ≠ [] → ∃ b off, A = some ⟨b, off, none⟩ ∧ ∀ i u, bs[i]? = some u → w.cell? ⟨b, off + i, none⟩ = some (.int .u8 (u.toNat : Int)))

section
variable {w w' : World} {v : Value} {bs : List UInt8} {X : Nat → Prop}
theorem Byt.fr (h : Byt w v bs) (hf : Fr X w w') (hx : ∀ k, v.ownBlock = some k → ¬ X k) : Byt w' v bs := by
  obtain ⟨A, c, rfl, h0, h1⟩ := h
  refine ⟨A, c, rfl, h0, fun hn => ?_⟩
  obtain ⟨b, off, rfl, h2⟩ := h1 hn
  exact ⟨b, off, rfl, fun i u hu => hf.cell (h2 i u hu) (hx b rfl)⟩
theorem Byt.drew (h : Byt w v bs) : Byt w.drew v bs := h
theorem Byt.drewN (h : Byt w v bs) (n : Nat) : Byt (w.drewN n) v bs := h
theorem Byt.alloc (h : Byt w v bs) (o : Obj) : Byt (w.alloc o) v bs := h.fr (X := fun _ => False) ((Fr.refl _ w).alloc o) (fun _ _ h => h)
theorem Byt.of_own {base : Nat} {e : TypeId} {n : Nat} (h : w.ownsRow base e 1 v n (u8s bs)) : Byt w v bs := by
  have hn : bs.length = n := by have := h.1; simpa using this
  rcases own_form h with ⟨rfl, rfl, hx⟩ | ⟨g, cap, cur, rfl, _, hg, _, _, _, hx⟩
  · have : bs = [] := List.eq_nil_of_length_eq_zero hn
    subst this
    exact ⟨none, 0, rfl, fun _ => rfl, fun h => absurd rfl h⟩
  · subst hn
    refine ⟨some ⟨g, 0, none⟩, cap, rfl, by simp, fun _ => ⟨g, 0, rfl, fun i u hu => ?_⟩⟩
    rw [Nat.zero_add]
    exact own_cell h i (u8s_get bs i hu)
theorem Byt.lt (h : Byt w v bs) (hn : bs ≠ []) : ∃ k, v.ownBlock = some k ∧ k < w.heap.size := by
  obtain ⟨A, c, rfl, h0, h1⟩ := h
  obtain ⟨b, off, rfl, h2⟩ := h1 hn
  obtain ⟨u, hu⟩ : ∃ u, bs[0]? = some u := by cases bs with | nil => exact absurd rfl hn | cons u _ => exact ⟨u, rfl⟩
  exact ⟨b, rfl, World.block_lt_of_cell? w _ (h2 0 u hu)⟩
/-- It reads so too where what may have turned lies above all that was there. -/
theorem Byt.keep {B : Nat} (h : Byt w v bs) (hB : w.heap.size ≤ B) (hf : Fr (fun k => B ≤ k) w w') : Byt w' v bs := by
  by_cases hn : bs = []
  · subst hn
    obtain ⟨A, c, rfl, h0, h1⟩ := h
    exact ⟨A, c, rfl, h0, fun h => absurd rfl h⟩
  · obtain ⟨k, hk, hlt⟩ := h.lt hn
    refine h.fr hf fun k' hk' => ?_
    rw [hk] at hk'
    injection hk' with hk'
    omega
/-- A byte slice whose block lies below B reads as it did. -/
def Low (B : Nat) (v : Value) : Prop := ∀ k, v.ownBlock = some k → k < B
theorem Byt.low {B : Nat} (h : Byt w v bs) (hB : Low B v) (hf : Fr (fun k => B ≤ k) w w') : Byt w' v bs :=
  h.fr hf fun k hk => by have := hB k hk; omega
end

/-! ### One built-in call as a step, by what it gives -/
section
variable {P : Program} {ops : Array Oper} {rest : List Oper} {o : Oper} {a : Act} {w : World} {K : Act → World → Prop} {Q : Exit → Act → World → Prop}
theorem wp_bi (b : Builtin) (args : Array Operand) (tys : Array TypeId) (vs : Array Value) (ho : o.op = .call { callee := .builtin b, args := args, argTypes := tys }) (hv : args.map a.eval = vs)
    (R : Value → World → Prop) (hrun : ∀ consts, ∃ v w', (builtin b tys o.type consts vs).run P w = .ok (.value v) w' ∧ R v w') (h : ∀ v w', R v w' → K (a.put o.dst v) w') : o.wp P a w K Q := by
  have key : ∀ cs, Oper.upon P o a K Q ((builtin b tys o.type cs vs).run P w) := fun cs => by
    obtain ⟨v, w', hr, hR⟩ := hrun cs
    rw [hr]
    exact h v w' hR
  unfold Oper.wp execOp
  simp only [ho, resolve, invoke, Sem.run_bind, Sem.run_pure, Result.andThen_ok, hv]
  exact key _
theorem wp_bi2 (b : Builtin) (s x : Operand) (tys : Array TypeId) (v1 v2 : Value) (ho : o.op = .call { callee := .builtin b, args := #[s, x], argTypes := tys }) (h1 : a.eval s = v1) (h2 : a.eval x = v2)
    (R : Value → World → Prop) (hrun : ∀ consts, ∃ v w', (builtin b tys o.type consts #[v1, v2]).run P w = .ok (.value v) w' ∧ R v w') (h : ∀ v w', R v w' → K (a.put o.dst v) w') : o.wp P a w K Q :=
  wp_bi b #[s, x] tys #[v1, v2] ho (by simp [h1, h2]) R hrun h
theorem step_bi1 {E : Prop} (hgd : o.guard = none) (b : Builtin) (x : Operand) (tys : Array TypeId) (v1 : Value) (ho : o.op = .call { callee := .builtin b, args := #[x], argTypes := tys }) (h1 : a.eval x = v1)
    (R : Value → World → Prop) (hrun : ∀ consts, ∃ v w', (builtin b tys o.type consts #[v1]).run P w = .ok (.value v) w' ∧ R v w') (h : ∀ v w', R v w' → K (a.put o.dst v) w') :
    if Region.wanted o (yielded ops a.tmps) = true then Oper.wp P o a w K Q else E := by
  have hw : Region.wanted o (yielded ops a.tmps) = true := by simp [Region.wanted, hgd]
  rw [if_pos hw]
  exact wp_bi b #[x] tys #[v1] ho (by simp [h1]) R hrun h
theorem wpList_bi2 (hgd : o.guard = none) (b : Builtin) (s x : Operand) (tys : Array TypeId) (v1 v2 : Value) (ho : o.op = .call { callee := .builtin b, args := #[s, x], argTypes := tys }) (h1 : a.eval s = v1) (h2 : a.eval x = v2)
    (R : Value → World → Prop) (hrun : ∀ consts, ∃ v w', (builtin b tys o.type consts #[v1, v2]).run P w = .ok (.value v) w' ∧ R v w') (h : ∀ v w', R v w' → wpList P ops Q rest (a.put o.dst v) w') : wpList P ops Q (o :: rest) a w :=
  wpList_plain hgd fun _ hK => wp_bi2 b s x tys v1 v2 ho h1 h2 R hrun fun v w' hR => hK _ _ (h v w' hR)
theorem step_bi2 {E : Prop} (hgd : o.guard = none) (b : Builtin) (s x : Operand) (tys : Array TypeId) (v1 v2 : Value) (ho : o.op = .call { callee := .builtin b, args := #[s, x], argTypes := tys }) (h1 : a.eval s = v1) (h2 : a.eval x = v2)
    (R : Value → World → Prop) (hrun : ∀ consts, ∃ v w', (builtin b tys o.type consts #[v1, v2]).run P w = .ok (.value v) w' ∧ R v w') (h : ∀ v w', R v w' → K (a.put o.dst v) w') :
    if Region.wanted o (yielded ops a.tmps) = true then Oper.wp P o a w K Q else E := by
  have hw : Region.wanted o (yielded ops a.tmps) = true := by simp [Region.wanted, hgd]
  rw [if_pos hw]
  exact wp_bi2 b s x tys v1 v2 ho h1 h2 R hrun h
end

section
variable {P : Program} {ops : Array Oper} {rest : List Oper} {o : Oper} {a : Act} {w : World} {Q : Exit → Act → World → Prop}
theorem wpList_build (hgd : o.guard = none) (t : TypeId) (parts : List (Nat × Operand)) (ho : o.op = .build t parts.toArray) (ps : List (Nat × Value)) (v : Value) (hps : parts.map (fun (i, x) => (i, a.eval x)) = ps)
    (hrun : (Instr.build t ps.toArray).run P w = .ok v w) (h : wpList P ops Q rest (a.put o.dst v) w) : wpList P ops Q (o :: rest) a w :=
  wpList_plain hgd fun _ hK => by
    unfold Oper.wp execOp
    simp only [ho, List.map_toArray, hps, Sem.run_bind, hrun, Result.andThen_ok, Sem.run_pure]
    exact hK _ _ h
end

/-! ### append: of cells that lie somewhere, or of nothing -/
/-- What an append leaves: the row of the new value, where it lies, what may have turned. -/
def Appended (base : Nat) (e : TypeId) (size : Nat) (w : World) (v : Value) (n m : Nat) (xs news : List Value) (v' : Value) (w' : World) : Prop :=
  w'.ownsRow base e size v' (n + m) (xs ++ news) ∧ w.grownBy w' v.ownBlock ∧ (v'.ownBlock = v.ownBlock ∨ v'.ownBlock = some w.heap.size)
section
variable {P : Program} {w : World} {base : Nat} {t ty e : TypeId} {i : TypeInfo} {z : Value} {size bytes : Nat} {v : Value} {n : Nat} {xs : List Value}
theorem ap_cells (ht : P.underlying t = some (.slice e)) (hi : P.info? e = some i) (hz : i.zero = some z) (hsize : i.size = size) (hby : i.bytes = bytes) (hzs : z.cells.size = size) (hsz : 0 < size)
    (hown : w.ownsRow base e size v n xs) (a : Addr) (m c : Nat) (news : List Value) (hl : news.length = m * size) (hnews : ∀ j u, news[j]? = some u → w.cell? (a.add j) = some u) (h1 : ∀ u ∈ news, u.oneCell' = true)
    (h63 : n + m ≤ maxLen) (hbytes : (n + m) * bytes ≤ 140737488355328) (hbase : base ≤ w.heap.size) (consts : Array Bool) :
    ∃ v' w', (builtin .append #[t, t] ty consts #[v, .slice (some a) m c]).run P w = .ok (.value v') w' ∧ Appended base e size w v n m xs news v' w' := by
  obtain ⟨v', w', hr, h2, h3, _, h5⟩ := run_append_own_at (P := P) w base t ty e i z size bytes ht hi hz hsize hby hzs hsz v n xs hown a m c news hl hnews h1 h63 hbytes hbase
  exact ⟨v', w', by simp only [builtin, Sem.run_bind, hr, Result.andThen_ok, Sem.run_pure], h2, h3, h5⟩
theorem add_none (b off j : Nat) : (⟨b, off, none⟩ : Addr).add j = ⟨b, off + j, none⟩ := by unfold Addr.add; split <;> simp_all
theorem ap_byt (ht : P.underlying t = some (.slice e)) (hi : P.info? e = some i) (hz : i.zero = some z) (hsize : i.size = 1) (hby : i.bytes = 1) (hzs : z.cells.size = 1)
    (hown : w.ownsRow base e 1 v n xs) (s : Value) (bs : List UInt8) (hs : Byt w s bs)
    (h63 : n + bs.length ≤ 140737488355328) (hbase : base ≤ w.heap.size) (consts : Array Bool) :
    ∃ v' w', (builtin .append #[t, t] ty consts #[v, s]).run P w = .ok (.value v') w' ∧ Appended base e 1 w v n bs.length xs (u8s bs) v' w' := by
  obtain ⟨A, c, rfl, h0, h1⟩ := hs
  cases A with
  | none =>
    have hc := h0 rfl
    subst hc
    have hb : bs = [] := by
      by_cases hn : bs = []
      · exact hn
      · obtain ⟨_, _, h, _⟩ := h1 hn; cases h
    subst hb
    refine ⟨v, w, ?_, ?_, ?_, .inl rfl⟩
    · have := run_append_owned_none (P := P) w base t ty e i 1 ht hi v n xs hown
      simp only [builtin, Sem.run_bind, List.length_nil, this, Result.andThen_ok, Sem.run_pure]
    · simpa [u8s] using hown
    · exact ⟨rfl, rfl, rfl, Nat.le_refl _, fun _ _ _ => rfl⟩
  | some a =>
    refine ap_cells ht hi hz hsize hby hzs (by omega) hown a bs.length c (u8s bs) (by simp) ?_ (u8s_one bs) (by simp only [maxLen]; omega) (by omega) hbase consts
    intro j u hu
    have hn : bs ≠ [] := by rintro rfl; simp [u8s] at hu
    obtain ⟨b, off, he, h2⟩ := h1 hn
    injection he with he
    subst he
    rw [add_none]
    have hj : j < bs.length := by have := (List.getElem?_eq_some_iff.1 hu).1; simpa using this
    have hg : bs[j]? = some bs[j] := List.getElem?_eq_getElem hj
    rw [u8s_get bs j hg] at hu
    injection hu with hu
    subst hu
    exact h2 j _ hg
end

section
variable {w w' : World} {base : Nat} {e : TypeId} {size : Nat} {v v' : Value} {n m : Nat} {xs news : List Value}
theorem Appended.form {k : Nat} (h : Appended base e size w v n m xs news v' w') (hk : v.ownBlock = some k) : ∃ g cap, v' = .slice (some ⟨g, 0, none⟩) (n + m) cap ∧ (g = k ∨ g = w.heap.size) := by
  obtain ⟨h1, _, h3⟩ := h
  rcases own_form h1 with ⟨rfl, _, _⟩ | ⟨g, cap, cur, rfl, _⟩
  · rcases h3 with h3 | h3
    · rw [hk] at h3; cases h3
    · cases h3
  · refine ⟨g, cap, rfl, ?_⟩
    rcases h3 with h3 | h3
    · rw [hk] at h3; injection h3 with h3; exact .inl h3
    · injection h3 with h3; exact .inr h3
theorem Appended.fr {X : Nat → Prop} {w0 : World} (h : Appended base e size w v n m xs news v' w') (hf : Fr X w0 w) (hx : ∀ k, v.ownBlock = some k → k < w0.heap.size → X k) : Fr X w0 w' := hf.grown h.2.1 hx
theorem Appended.blk {g : Nat} {t : TypeId} {cs : Array Value} (h : Appended base e size w v n m xs news v' w') (hb : Blk w g t cs) (hne : v.ownBlock ≠ some g) : Blk w' g t cs :=
  (h.2.1.block g hb.lt (fun e => hne e.symm)).trans hb
end

/-! ### copy into a row, clear of a row's end -/
section
variable {P : Program} {w : World} {g : Nat} {T : TypeId} {cur : Array Value}
theorem splice_blk (hB : Blk w g T cur) (o : Nat) (cs : List Value) (hfit : o + cs.length ≤ cur.size) (h1 : ∀ v ∈ cs, v.oneCell' = true) :
    ∃ w', (storeCells ⟨g, o, none⟩ cs).run P w = .ok () w' ∧ Blk w' g T (cur.toList.take o ++ cs ++ cur.toList.drop (o + cs.length)).toArray ∧ Fr (fun k => k = g) w w' := by
  have hst := run_storeCells_at P g o T cs 0 cur w hB (by simpa using hfit) h1
  simp only [Nat.add_zero] at hst
  exact ⟨_, hst, setRow_heap w g cur _ T (0, 0) hB, Fr.setRow (X := fun k => k = g) (Fr.refl _ w) (fun _ => rfl) _⟩
theorem cp_row {t ty e : TypeId} {i : TypeInfo} {sz : Nat} (ht : P.underlying t = some (.slice e)) (hi : P.info? e = some i) (hsz : i.size = sz) (hB : Blk w g T cur) (od dl dc sl sc : Nat) (sp : Option Addr) (cs : List Value)
    (hle : sl ≤ dl) (hl : cs.length = sl * sz) (hsrc : 0 < sl → ∃ a, sp = some a ∧ ∀ j u, cs[j]? = some u → w.cell? (a.add j) = some u) (hfit : od + cs.length ≤ cur.size) (h1 : ∀ v ∈ cs, v.oneCell' = true) (consts : Array Bool) :
    ∃ v w', (builtin .copy #[t, t] ty consts #[.slice (some ⟨g, od, none⟩) dl dc, .slice sp sl sc]).run P w = .ok (.value v) w' ∧
      (Blk w' g T (cur.toList.take od ++ cs ++ cur.toList.drop (od + cs.length)).toArray ∧ Fr (fun k => k = g) w w') := by
  subst hsz
  obtain ⟨w', hst, hR⟩ := splice_blk (P := P) hB od cs hfit h1
  refine ⟨goInt sl, w', ?_, hR⟩
  have hmin : Nat.min sl dl = sl := Nat.min_eq_left hle
  have hfc : (Builtin.firstCells i.size sl (.slice sp sl sc)).run P w = .ok cs.toArray w := by
    by_cases h0 : 0 < sl
    · obtain ⟨a, rfl, hc⟩ := hsrc h0
      exact run_firstCells_some (P := P) w i.size sl a sl sc cs hl hc
    · obtain rfl : sl = 0 := by omega
      have hcs : cs = [] := List.eq_nil_of_length_eq_zero (by simpa using hl)
      subst hcs
      cases sp with
      | none => exact run_firstCells_none (P := P) w i.size 0 0 sc
      | some a => exact run_firstCells_some (P := P) w i.size 0 a 0 sc [] (by simp) (by simp)
  simp [builtin, Builtin.copy_, run_underlying ht, sizeOf, typeInfo, hi, Builtin.lenOf, hmin, hfc, hst]
theorem clr_row {t ty e : TypeId} {z : Value} {sz : Nat} (ht : P.underlying t = some (.slice e)) (hz : ∀ w, (zeroValue e).run P w = .ok z w) (hB : Blk w g T cur) (od n dc : Nat) (hn : 0 < n) (hs : z.cells.size = sz)
    (h1 : ∀ v ∈ (Builtin.zeroCells z.cells n).toList, v.oneCell' = true) (hfit : od + n * sz ≤ cur.size) (consts : Array Bool) :
    ∃ v w', (builtin .clear #[t] ty consts #[.slice (some ⟨g, od, none⟩) n dc]).run P w = .ok (.value v) w' ∧
      (Blk w' g T (cur.toList.take od ++ (Builtin.zeroCells z.cells n).toList ++ cur.toList.drop (od + n * sz)).toArray ∧ Fr (fun k => k = g) w w') := by
  have hlen : (Builtin.zeroCells z.cells n).toList.length = n * sz := by rw [Array.length_toList, size_zeroCells, hs]
  obtain ⟨w', hst, hR⟩ := splice_blk (P := P) hB od (Builtin.zeroCells z.cells n).toList (by rw [hlen]; exact hfit) h1
  rw [hlen] at hR
  refine ⟨.tuple #[], w', ?_, hR⟩
  cases n with
  | zero => omega
  | succ n => simp [builtin, Builtin.clear_, run_underlying ht, hz, hst]
end

/-! ### a result that lies in a block, beside another one -/
theorem results_row_tmp {P : Program} {fn : Func} {p u : Tmp} {ty : TypeId} (h : fn.results = #[.cell p ty, .tmp u]) (tmps : Array Value) (w : World) (g : Nat) (t : TypeId) (cs : Array Value) (fr : Nat × Nat) (d : TypeDesc)
    (hp : tmps.getD p undef = .pointer (some ⟨g, 0, none⟩)) (hg : w.heap[g]? = some (.cells cs t fr))
    (hu : P.underlying ty = some d) (hd : (match d with | .struct _ | .array _ _ => true | _ => false) = true) (hi : (P.info? ty).map (·.size) = some cs.size) :
    (results fn tmps).run P w = .ok (.tuple #[.agg cs, tmps.getD u undef]) w := by
  rw [results_cell_tmp h, hp]
  simp only [asAddr, Sem.run_pure, Result.andThen_ok, run_loadVar_row w g t ty cs fr d hg hu hd hi]

/-! ### string(b) -/
section
variable {P : Program} {w : World}
def strOf (bs : List UInt8) : ByteArray := ⟨bs.toArray⟩
theorem strOf_size (bs : List UInt8) : (strOf bs).size = bs.length := by simp [strOf, ByteArray.size]
theorem strOf_inj {a b : List UInt8} (h : strOf a = strOf b) : a = b := by
  unfold strOf at h
  injection h with h
  simpa using h
theorem run_str {src dst e : TypeId} (hs : P.underlying src = some (.slice e)) (he : P.underlying e = some (.int .u8)) (hd : P.underlying dst = some .string) {v : Value} {bs : List UInt8} (h : Byt w v bs) :
    (convert src dst v).run P w = .ok (.string (strOf bs)) w := by
  obtain ⟨A, c, rfl, h0, h1⟩ := h
  by_cases hn : bs = []
  · subst hn
    cases A with
    | none => rw [run_convert_bytes_nil w src e hs he _ _ dst hd]; rfl
    | some a =>
      simp only [List.length_nil]
      rw [run_convert_bytes_string w src dst e _ _ _ hs he hd, run_bytesToString w a 0 c [] (by simpa using run_loadCells_list (P := P) w a [] (by simp))]
      rfl
  · obtain ⟨b, off, rfl, h2⟩ := h1 hn
    rw [run_convert_bytes_arg w src e hs he b off bs.length c (bs.map fun u => (u.toNat : Int)) (by simp) (fun i hi => by
      rw [h2 i bs[i] (List.getElem?_eq_getElem hi)]
      simp [List.getD, List.getElem?_eq_getElem hi]) dst hd]
    congr 2
    simp only [strOfNums, strOf, List.map_map]
    congr 1
    have : ∀ l : List UInt8, (l.map ((fun n : Int => UInt8.ofNat n.toNat) ∘ fun u : UInt8 => (u.toNat : Int))) = l := by
      intro l; induction l with
      | nil => rfl
      | cons u l ih => simp [ih]
    rw [this]
end
end Go.Proofs.Ytkpfgoalohbfeaa

/- Quorums, plainly: what may be, what a quorum is, counted and read off a set's bits. -/
namespace Go.Proofs.Ytkpfgoalohbfeaa

/-- A system of quorums. -/
structure Qu where
  k : Int
  n : Int
  o : Int
  t : Int
  s : List Int

/-- May both counts be? -/
def cts (q : Qu) : Bool := decide (1 ≤ q.o ∧ q.o ≤ q.n ∧ 1 ≤ q.t ∧ q.t ≤ q.n)
/-- Is one site out of bounds? -/
def badS (z : Int) : Bool := decide (z < 0 ∨ 12 ≤ z)
/-- What Right answers. -/
def rightE (q : Qu) : Int :=
  if q.n < 1 ∨ 12 < q.n then 2
  else if q.k = 1 then (if cts q then (if q.o + q.t ≤ q.n then 80 else 0) else 2)
  else if q.k = 2 then (if cts q && decide (q.o * q.t = q.n) then 0 else 2)
  else if q.k = 3 then (if decide ((q.s.length : Int) = q.n) && !q.s.any badS then 0 else 2)
  else 2

/-- How many of the first n. -/
def cnt : Nat → (Nat → Bool) → Nat
  | 0, _ => 0
  | n + 1, p => cnt n p + (if p n then 1 else 0)
/-- All of the first n, one of them. -/
def allN : Nat → (Nat → Bool) → Bool
  | 0, _ => true
  | n + 1, p => allN n p && p n
def anyN : Nat → (Nat → Bool) → Bool
  | 0, _ => false
  | n + 1, p => anyN n p || p n
theorem allN_iff {n : Nat} {p : Nat → Bool} : allN n p = true ↔ ∀ i, i < n → p i = true := by
  induction n with
  | zero => simp [allN]
  | succ n ih =>
    simp only [allN, Bool.and_eq_true, ih]
    constructor
    · rintro ⟨h1, h2⟩ i hi
      by_cases h : i = n
      · rw [h]; exact h2
      · exact h1 i (by omega)
    · exact fun h => ⟨fun i hi => h i (by omega), h n (by omega)⟩
theorem anyN_iff {n : Nat} {p : Nat → Bool} : anyN n p = true ↔ ∃ i, i < n ∧ p i = true := by
  induction n with
  | zero => simp [anyN]
  | succ n ih =>
    simp only [anyN, Bool.or_eq_true, ih]
    constructor
    · rintro (⟨i, h1, h2⟩ | h)
      · exact ⟨i, by omega, h2⟩
      · exact ⟨n, by omega, h⟩
    · rintro ⟨i, h1, h2⟩
      by_cases h : i = n
      · exact .inr (h ▸ h2)
      · exact .inl ⟨i, by omega, h2⟩
theorem cnt_congr {n : Nat} {p p' : Nat → Bool} (h : ∀ i, i < n → p i = p' i) : cnt n p = cnt n p' := by
  induction n with
  | zero => rfl
  | succ n ih => simp only [cnt]; rw [ih (fun i hi => h i (by omega)), h n (by omega)]
theorem allN_congr {n : Nat} {p p' : Nat → Bool} (h : ∀ i, i < n → p i = p' i) : allN n p = allN n p' := by
  induction n with
  | zero => rfl
  | succ n ih => simp only [allN]; rw [ih (fun i hi => h i (by omega)), h n (by omega)]
theorem anyN_congr {n : Nat} {p p' : Nat → Bool} (h : ∀ i, i < n → p i = p' i) : anyN n p = anyN n p' := by
  induction n with
  | zero => rfl
  | succ n ih => simp only [anyN]; rw [ih (fun i hi => h i (by omega)), h n (by omega)]
theorem cnt_le (n : Nat) (p : Nat → Bool) : cnt n p ≤ n := by
  induction n with
  | zero => simp [cnt]
  | succ n ih => simp only [cnt]; split <;> omega

/-- The set of those of the first n that p names. -/
def mask : Nat → (Nat → Bool) → Nat
  | 0, _ => 0
  | n + 1, p => if p n then mask n p ||| 2 ^ n else mask n p
theorem mask_bit (n : Nat) (p : Nat → Bool) (i : Nat) : (mask n p).testBit i = (decide (i < n) && p i) := by
  induction n with
  | zero => simp [mask]
  | succ n ih =>
    simp only [mask]
    split
    · rename_i h
      rw [Nat.testBit_or, ih, Nat.testBit_two_pow]
      by_cases hi : n = i
      · subst hi; simp [h]
      · by_cases h2 : i < n
        · simp [h2, hi, show i < n + 1 by omega]
        · simp [h2, hi, show ¬ i < n + 1 by omega]
    · rename_i h
      rw [ih]
      by_cases hi : i = n
      · subst hi; simp [h]
      · by_cases h2 : i < n
        · simp [h2, show i < n + 1 by omega]
        · simp [h2, show ¬ i < n + 1 by omega]
theorem mask_lt (n : Nat) (p : Nat → Bool) : mask n p < 2 ^ n := by
  induction n with
  | zero => simp [mask]
  | succ n ih =>
    simp only [mask]
    split
    · exact Nat.or_lt_two_pow (by rw [Nat.pow_succ]; omega) (by rw [Nat.pow_succ]; have := Nat.two_pow_pos n; omega)
    · rw [Nat.pow_succ]; omega
theorem bits_eq {n x y : Nat} (hx : x < 2 ^ n) (hy : y < 2 ^ n) (h : ∀ i, i < n → x.testBit i = y.testBit i) : x = y := by
  apply Nat.eq_of_testBit_eq
  intro i
  by_cases hi : i < n
  · exact h i hi
  · rw [Nat.testBit_lt_two_pow (Nat.lt_of_lt_of_le hx (Nat.pow_le_pow_right (by omega) (by omega))), Nat.testBit_lt_two_pow (Nat.lt_of_lt_of_le hy (Nat.pow_le_pow_right (by omega) (by omega)))]

/-- Is every one of a group in the set? Is one of it? -/
theorem and_all (n : Nat) (x : Nat) (p : Nat → Bool) : (x &&& mask n p == mask n p) = allN n fun i => !p i || x.testBit i := by
  rw [Bool.eq_iff_iff, beq_iff_eq, allN_iff]
  constructor
  · intro h i hi
    have := congrArg (fun y => Nat.testBit y i) h
    simp only [Nat.testBit_and, mask_bit, hi, decide_true, Bool.true_and] at this
    cases hp : p i with
    | false => rfl
    | true => rw [hp] at this; simpa using this
  · intro h
    apply Nat.eq_of_testBit_eq
    intro i
    rw [Nat.testBit_and, mask_bit]
    by_cases hi : i < n
    · have := h i hi
      cases hp : p i with
      | false => simp
      | true => rw [hp] at this; simp at this; simp [this, hi]
    · simp [hi]
theorem and_none (n : Nat) (x : Nat) (p : Nat → Bool) : (x &&& mask n p == 0) = !anyN n fun i => p i && x.testBit i := by
  rw [Bool.eq_iff_iff, beq_iff_eq, Bool.not_eq_true', ← Bool.not_eq_true, anyN_iff]
  constructor
  · rintro h ⟨i, hi, h2⟩
    have := congrArg (fun y => Nat.testBit y i) h
    simp only [Nat.testBit_and, mask_bit, hi, decide_true, Bool.true_and, Nat.zero_testBit] at this
    rw [Bool.and_comm, this] at h2
    cases h2
  · intro h
    apply Nat.eq_of_testBit_eq
    intro i
    rw [Nat.testBit_and, mask_bit, Nat.zero_testBit]
    by_cases hi : i < n
    · cases h2 : (p i && x.testBit i) with
      | true => exact absurd ⟨i, hi, h2⟩ h
      | false => rw [Bool.and_comm] at h2; simpa [hi] using h2
    · simp [hi]

/-- A quorum of a phase, of those that p names. -/
def quo (q : Qu) (second : Bool) (p : Nat → Bool) : Bool :=
  if q.k = 1 then decide ((if second then q.t else q.o) ≤ (cnt q.n.toNat p : Int))
  else if q.k = 2 then
    if second then anyN q.t.toNat fun c => allN q.n.toNat fun i => !decide (((i % q.t.toNat : Nat) : Int) = (c : Nat)) || p i
    else anyN q.o.toNat fun r => allN q.n.toNat fun i => !decide (((i / q.t.toNat : Nat) : Int) = (r : Nat)) || p i
  else
    if second then anyN q.n.toNat fun j => allN q.n.toNat fun i => !decide (q.s[i]? = q.s[j]?) || p i
    else allN q.n.toNat fun j => anyN q.n.toNat fun i => decide (q.s[i]? = q.s[j]?) && p i
def okQ (q : Qu) : Bool := rightE q == 0
def isQ (q : Qu) (second : Bool) (p : Nat → Bool) : Bool := okQ q && quo q second p
theorem quo_congr {q : Qu} {second : Bool} {p p' : Nat → Bool} (h : ∀ i, i < q.n.toNat → p i = p' i) : quo q second p = quo q second p' := by
  unfold quo
  split
  · rw [cnt_congr h]
  · split
    · split
      · exact anyN_congr fun c _ => allN_congr fun i hi => by rw [h i hi]
      · exact anyN_congr fun c _ => allN_congr fun i hi => by rw [h i hi]
    · split
      · exact anyN_congr fun c _ => allN_congr fun i hi => by rw [h i hi]
      · exact allN_congr fun c _ => anyN_congr fun i hi => by rw [h i hi]
theorem isQ_congr {q : Qu} {second : Bool} {p p' : Nat → Bool} (h : ∀ i, i < q.n.toNat → p i = p' i) : isQ q second p = isQ q second p' := by
  unfold isQ; rw [quo_congr h]
end Go.Proofs.Ytkpfgoalohbfeaa

/- Numbers that lie somewhere; OnesCount32, Right. -/
namespace Go.Proofs.Ytkpfgoalohbfeaa
open Go.RowKit

def i64s (l : List Int) : List Value := l.map fun z => .int .i64 z
/-- The slice value v reads as the numbers l. -/
def Ints (w : World) (v : Value) (l : List Int) : Prop :=
  ∃ A c, v = .slice A l.length c ∧ (l ≠ [] → ∃ b off, A = some ⟨b, off, none⟩ ∧ ∀ i z, l[i]? = some z → w.cell? ⟨b, off + i, none⟩ = some (.int .i64 z))
section
variable {w w' : World} {v : Value} {l : List Int}
theorem Ints.up (h : Ints w v l) (hf : Fr (fun _ => False) w w') : Ints w' v l := by
  obtain ⟨A, c, rfl, h1⟩ := h
  refine ⟨A, c, rfl, fun hn => ?_⟩
  obtain ⟨b, off, rfl, h2⟩ := h1 hn
  exact ⟨b, off, rfl, fun i z hz => hf.cell (h2 i z hz) (fun h => h)⟩
end
/-- The struct's value. -/
def Qu.v (q : Qu) (s : Value) : Value := .agg #[.int .i64 q.k, .int .i64 q.n, .int .i64 q.o, .int .i64 q.t, s]

theorem cnt_add (m n : Nat) (p : Nat → Bool) : cnt (m + n) p = cnt m p + cnt n (fun i => p (m + i)) := by
  induction n with
  | zero => rfl
  | succ n ih => rw [show m + (n + 1) = (m + n) + 1 from rfl]; simp only [cnt]; rw [ih]; omega
theorem pop_cnt : ∀ n : Fin 256, Lib.pop8 (n.val : Int) = (cnt 8 n.val.testBit : Int) := by decide +kernel
theorem ones_tab (x : Nat) (hx : x < 4096) : Lib.pop8 ((x / 256 : Nat) : Int) + Lib.pop8 ((x % 256 : Nat) : Int) = (cnt 12 x.testBit : Int) := by
  have h1 := pop_cnt ⟨x / 256, by omega⟩
  have h2 := pop_cnt ⟨x % 256, by omega⟩
  simp only at h1 h2
  rw [h1, h2, show (12 : Nat) = 8 + 4 from rfl, cnt_add]
  have e1 : cnt 8 (x % 256).testBit = cnt 8 x.testBit := cnt_congr fun i hi => by
    rw [show (256 : Nat) = 2 ^ 8 from rfl, Nat.testBit_mod_two_pow]; simp [hi]
  have e2 : cnt 8 (x / 256).testBit = cnt 4 (fun i => x.testBit (8 + i)) := by
    rw [show (8 : Nat) = 4 + 4 from rfl, cnt_add]
    have e3 : cnt 4 (fun i => (x / 256).testBit (4 + i)) = 0 := by
      rw [cnt_congr (p' := fun _ => false) fun i hi => ?_]
      · rfl
      · exact Nat.testBit_lt_two_pow (Nat.lt_of_lt_of_le (by omega : x / 256 < 2 ^ 4) (Nat.pow_le_pow_right (by omega) (by omega)))
    rw [e3, Nat.add_zero]
    exact cnt_congr fun i hi => by rw [show (256 : Nat) = 2 ^ 8 from rfl, Nat.testBit_div_two_pow, show i + 8 = 4 + 4 + i by omega]
  rw [e1, e2]
  omega

set_option maxRecDepth 100000 in
set_option maxHeartbeats 4000000 in
theorem ones_any (x : Nat) (hx : x < 4096) (w : World) :
    Calls Try.prog 81 #[.int .u32 (x : Int)] w fun e w' => e = .returned (.int .i64 (cnt 12 x.testBit : Int)) ∧ ∃ n, w' = w.drewN n := by
  have hx' : (x : Int) < 4096 := by omega
  have b0 : bits .and .u32 (x : Int) 255 = ((x % 256 : Nat) : Int) := by
    have := u32_and_nat x 255 (by omega) (by omega)
    rw [nat_mask8] at this; exact this
  have b1 : bits .and .u32 ((x : Int) / 65536) 255 = 0 := by
    rw [show (x : Int) / 65536 = 0 by omega]; decide
  have b2 : bits .and .u32 ((x : Int) / 256) 255 = ((x / 256 : Nat) : Int) := by
    have := u32_and_nat (x / 256) 255 (by omega) (by omega)
    rw [nat_mask8, show x / 256 % 256 = x / 256 by omega] at this
    rw [← this]; rfl
  have b3 : (x : Int) / 16777216 = 0 := by omega
  have b4 : (x : Int) / 256 ≤ 255 := by omega
  have b5 : (x : Int) % 256 ≤ 255 := by omega
  have b6 : 0 ≤ (x : Int) / 256 := by omega
  have b7 : 0 ≤ (x : Int) % 256 := by omega
  have ht := ones_tab x hx
  have hc := cnt_le 12 x.testBit
  have HT := Lib.hid ht
  clear ht
  go_enter Try.func81, Try.ntmps81
  go_upto_region 1 with (fail)
  generalize hT : Value.string _ = S
  have hS : S = Value.string Lib.pop8tab := by rw [← hT]; kernel_rfl
  clear hT
  subst hS
  go_region
  all_goals go_wp2_with fail
  all_goals go_ret
  refine ⟨?_, 1, rfl⟩
  show Ending.returned (.int .i64 ((Lib.pop8 0 + Lib.pop8 0 + Lib.pop8 ((x : Int) / 256) + Lib.pop8 ((x : Int) % 256)) % 256)) = _
  have h0 : Lib.pop8 0 = 0 := by decide +kernel
  have h1 := HT.out
  rw [show (((x / 256 : Nat) : Int)) = (x : Int) / 256 from rfl, show (((x % 256 : Nat) : Int)) = (x : Int) % 256 from rfl] at h1
  rw [h0]
  congr 2
  omega

theorem bad_any (z : Int) (w : World) :
    Calls Try.prog 65 #[.int .i64 z] w fun e w' => e = .returned (.bool (badS z)) ∧ w = w' := by
  by_cases h0 : z < 0
  · go_enter Try.func65, Try.ntmps65
    go_wp2_with fail
    go_ret
    exact ⟨by simp [badS, h0], rfl⟩
  · go_enter Try.func65, Try.ntmps65
    go_wp2_with fail
    go_ret
    refine ⟨?_, rfl⟩
    show Ending.returned (.bool (decide (12 ≤ z))) = _
    simp [badS]; omega

/-- Is one of them so? -/
def IdxPost (l : List Int) (w : World) (e : Ending) (w' : World) : Prop := ∃ z : Int, e = .returned (.int .i64 z) ∧ decide (0 ≤ z) = l.any badS ∧ w = w'
set_option maxHeartbeats 4000000 in
theorem index_any (l : List Int) (s : Value) (w : World) (hs : Ints w s l) (hl : l.length ≤ 1000) :
    Calls Try.prog 76 #[s, .func (.func 65) #[] #[]] w (IdxPost l w) := by
  obtain ⟨A, c, rfl, h1⟩ := hs
  have H1 := Lib.hid h1
  clear h1
  go_enter Try.func76, Try.ntmps76
  go_wp2_with fail
  go_loopg [8] l.length (fun g x8 wr => ∃ (j : Nat), j + g = l.length ∧ x8 = .int .i64 j ∧ (l.take j).any badS = false ∧ w = wr)
  case atStart => exact ⟨0, by omega, rfl, by simp, rfl⟩
  case round =>
    obtain ⟨j, hj, rfl, hany, hww⟩ := hrel
    have HJ := Lib.hid (And.intro hj hany)
    have hj' : j ≤ l.length := by omega
    clear hj hany
    subst hww
    by_cases hlt : j < l.length
    · obtain ⟨z, hz⟩ : ∃ z, l[j]? = some z := ⟨_, List.getElem?_eq_getElem hlt⟩
      obtain ⟨b, off, rfl, h2⟩ := H1.out (by rintro rfl; simp at hlt)
      have q0 := h2 j z hz
      have ht : (l.take (j + 1)).any badS = badS z := by
        rw [List.take_add_one, hz, List.any_append, HJ.out.2]; simp
      have hm : badS z = true → l.any badS = true := fun h => by rw [List.any_eq_true]; exact ⟨z, List.mem_of_getElem? hz, h⟩
      have HT := Lib.hid (And.intro ht hm)
      clear ht hm hz h2
      go_wp2_with fail
      refine (bad_any z _).mono ?_
      rintro e w' ⟨rfl, rfl⟩
      cases hb : badS z with
      | true =>
        have HB := Lib.hid hb
        clear hb
        go_wp2_with fail
        go_ret
        exact ⟨j, rfl, by rw [HT.out.2 HB.out]; simp, rfl⟩
      | false =>
        have HB := Lib.hid hb
        clear hb
        go_wp2_with fail
        go_roundg (l.length - (j + 1))
        case measure => have := HJ.out; omega
        case rel => exact ⟨j + 1, by have := HJ.out; omega, by go_num, by rw [HT.out.1]; exact HB.out, rfl⟩
    · obtain rfl : j = l.length := by omega
      have h3 := HJ.out.2
      rw [List.take_length] at h3
      have H3 := Lib.hid h3
      clear h3
      go_wp2_with fail
      go_ret
      exact ⟨-1, rfl, by rw [H3.out]; simp, rfl⟩
theorem contains_any (l : List Int) (s : Value) (w : World) (hs : Ints w s l) (hl : l.length ≤ 1000) :
    Calls Try.prog 64 #[s, .func (.func 65) #[] #[]] w fun e w' => e = .returned (.bool (l.any badS)) ∧ w = w' := by
  have hi := index_any l s w hs hl
  obtain ⟨A, c, rfl, h1⟩ := hs
  have HI := Lib.hid hi
  clear hi h1
  go_enter Try.func64, Try.ntmps64
  go_wp2_with fail
  refine HI.out.mono ?_
  rintro e w' ⟨z, rfl, hz, rfl⟩
  have HZ := Lib.hid hz
  clear hz
  go_wp2_with fail
  go_ret
  refine ⟨?_, rfl⟩
  rw [← HZ.out]
  rfl

set_option maxRecDepth 100000 in
set_option maxHeartbeats 4000000 in
theorem right_any (q : Qu) (s : Value) (w : World) (hs : Ints w s q.s) (hl : q.s.length ≤ 1000) :
    Calls Try.prog 43 #[q.v s] w fun e w' => e = .returned (.int .i64 (rightE q)) ∧ Fr (fun _ => False) w w' := by
  obtain ⟨k, n, o, t, l⟩ := q
  have hs0 := hs
  obtain ⟨A, c, rfl, -⟩ := hs0
  have hf := (Fr.refl (fun _ => False) w).alloc (.cells #[.int .i64 k, .int .i64 n, .int .i64 o, .int .i64 t, .slice A l.length c] 24)
  have hs1 := hs.up hf
  have HF := Lib.hid (And.intro hf hs1)
  simp only [Qu.v] at hl ⊢
  clear hf hs1 hs
  by_cases h1 : n < 1
  · have e0 : rightE ⟨k, n, o, t, l⟩ = 2 := by unfold rightE; rw [if_pos (.inl h1)]
    rw [e0]
    clear e0
    go_enter Try.func43, Try.ntmps43
    go_wp2_with fail
    go_ret
    exact ⟨rfl, HF.out.1⟩
  by_cases h2 : 12 < n
  · have e0 : rightE ⟨k, n, o, t, l⟩ = 2 := by unfold rightE; rw [if_pos (.inr h2)]
    rw [e0]
    clear e0
    go_enter Try.func43, Try.ntmps43
    go_wp2_with fail
    go_ret
    exact ⟨rfl, HF.out.1⟩
  by_cases k3 : k = 3
  · subst k3
    have hd : o < 1 ∨ (1 ≤ o ∧ n < o) ∨ (1 ≤ o ∧ o ≤ n ∧ t < 1) ∨ (1 ≤ o ∧ o ≤ n ∧ 1 ≤ t ∧ n < t) ∨ (1 ≤ o ∧ o ≤ n ∧ 1 ≤ t ∧ t ≤ n) := by omega
    rcases hd with c1 | ⟨c1, c2⟩ | ⟨c1, c2, c3⟩ | ⟨c1, c2, c3, c4⟩ | ⟨c1, c2, c3, c4⟩
    all_goals
      by_cases hn : (l.length : Int) = n
      · have hn' : ((l.length : Int) == n) = true := by simp [hn]
        cases hb : l.any badS with
        | true =>
          have e0 : rightE ⟨3, n, o, t, l⟩ = 2 := by unfold rightE; rw [if_neg (by simp only; omega), if_neg (by simp), if_neg (by simp), if_pos rfl, hb]; simp
          have HB := Lib.hid hb
          rw [e0]
          clear e0 hb hn
          go_enter Try.func43, Try.ntmps43
          go_wp2_with fail
          refine (contains_any l _ _ HF.out.2 (by omega)).mono ?_
          rintro e w' ⟨rfl, rfl⟩
          rw [HB.out]
          go_wp2_with fail
          go_ret
          exact ⟨rfl, HF.out.1⟩
        | false =>
          have e0 : rightE ⟨3, n, o, t, l⟩ = 0 := by unfold rightE; rw [if_neg (by simp only; omega), if_neg (by simp), if_neg (by simp), if_pos rfl, hb]; simp [hn]
          have HB := Lib.hid hb
          rw [e0]
          clear e0 hb hn
          go_enter Try.func43, Try.ntmps43
          go_wp2_with fail
          refine (contains_any l _ _ HF.out.2 (by omega)).mono ?_
          rintro e w' ⟨rfl, rfl⟩
          rw [HB.out]
          go_wp2_with fail
          go_ret
          exact ⟨rfl, HF.out.1⟩
      · have hn' : ((l.length : Int) == n) = false := by simp [hn]
        have e0 : rightE ⟨3, n, o, t, l⟩ = 2 := by unfold rightE; rw [if_neg (by simp only; omega), if_neg (by simp), if_neg (by simp), if_pos rfl]; simp [hn]
        rw [e0]
        clear e0 hn
        go_enter Try.func43, Try.ntmps43
        go_wp2_with fail
        go_ret
        exact ⟨rfl, HF.out.1⟩
  have k3' : (k == 3) = false := by simp [k3]
  by_cases hc : 1 ≤ o ∧ o ≤ n ∧ 1 ≤ t ∧ t ≤ n
  · have hcc : cts ⟨k, n, o, t, l⟩ = true := by simp [cts, hc]
    obtain ⟨c1, c2, c3, c4⟩ := hc
    by_cases k1 : k = 1
    · subst k1
      by_cases hm : o + t ≤ n
      · have e0 : rightE ⟨1, n, o, t, l⟩ = 80 := by unfold rightE; rw [if_neg (by simp only; omega), if_pos rfl, hcc, if_pos rfl, if_pos hm]
        rw [e0]
        clear e0 hcc
        go_enter Try.func43, Try.ntmps43
        go_wp2_with fail
        go_ret
        exact ⟨rfl, HF.out.1⟩
      · have e0 : rightE ⟨1, n, o, t, l⟩ = 0 := by unfold rightE; rw [if_neg (by simp only; omega), if_pos rfl, hcc, if_pos rfl, if_neg hm]
        rw [e0]
        clear e0 hcc
        go_enter Try.func43, Try.ntmps43
        go_wp2_with fail
        go_ret
        exact ⟨rfl, HF.out.1⟩
    have k1' : (k == 1) = false := by simp [k1]
    by_cases k2 : k = 2
    · subst k2
      have hm0 : o * t ≤ 144 := Int.le_trans (Int.mul_le_mul (show o ≤ 12 by omega) (show t ≤ 12 by omega) (by omega) (by omega)) (by omega)
      have hm1 : 0 ≤ o * t := Int.mul_nonneg (by omega) (by omega)
      have hm2 : IntKind.i64.wrap (o * t) = o * t := IntWalk.i64_in _ (by omega)
      by_cases hm : o * t = n
      · have e0 : rightE ⟨2, n, o, t, l⟩ = 0 := by unfold rightE; rw [if_neg (by simp only; omega), if_neg (by simp), if_pos rfl, hcc]; simp [hm]
        have hm' : (o * t == n) = true := by simp [hm]
        rw [e0]
        clear e0 hcc hm
        go_enter Try.func43, Try.ntmps43
        go_wp2_with fail
        go_ret
        exact ⟨rfl, HF.out.1⟩
      · have e0 : rightE ⟨2, n, o, t, l⟩ = 2 := by unfold rightE; rw [if_neg (by simp only; omega), if_neg (by simp), if_pos rfl, hcc]; simp [hm]
        have hm' : (o * t == n) = false := by simp [hm]
        rw [e0]
        clear e0 hcc hm
        go_enter Try.func43, Try.ntmps43
        go_wp2_with fail
        go_ret
        exact ⟨rfl, HF.out.1⟩
    have k2' : (k == 2) = false := by simp [k2]
    have e0 : rightE ⟨k, n, o, t, l⟩ = 2 := by unfold rightE; rw [if_neg (by simp only; omega), if_neg k1, if_neg k2, if_neg k3]
    rw [e0]
    clear e0 hcc k1 k2 k3
    go_enter Try.func43, Try.ntmps43
    go_wp2_with fail
    go_ret
    exact ⟨rfl, HF.out.1⟩
  · have hcc : cts ⟨k, n, o, t, l⟩ = false := by simp only [cts, decide_eq_false_iff_not]; exact hc
    have e0 : rightE ⟨k, n, o, t, l⟩ = 2 := by
      unfold rightE
      rw [if_neg (by simp only; omega), hcc, if_neg k3]
      simp
    rw [e0]
    clear e0 hcc
    have hd : o < 1 ∨ (1 ≤ o ∧ n < o) ∨ (1 ≤ o ∧ o ≤ n ∧ t < 1) ∨ (1 ≤ o ∧ o ≤ n ∧ 1 ≤ t ∧ n < t) := by omega
    clear hc
    by_cases k1 : k = 1
    · subst k1
      clear k3
      rcases hd with c1 | ⟨c1, c2⟩ | ⟨c1, c2, c3⟩ | ⟨c1, c2, c3, c4⟩
      all_goals
        go_enter Try.func43, Try.ntmps43
        go_wp2_with fail
        go_ret
        exact ⟨rfl, HF.out.1⟩
    have k1' : (k == 1) = false := by simp [k1]
    by_cases k2 : k = 2
    · subst k2
      clear k3
      rcases hd with c1 | ⟨c1, c2⟩ | ⟨c1, c2, c3⟩ | ⟨c1, c2, c3, c4⟩
      all_goals
        go_enter Try.func43, Try.ntmps43
        go_wp2_with fail
        go_ret
        exact ⟨rfl, HF.out.1⟩
    have k2' : (k == 2) = false := by simp [k2]
    clear k1 k2 k3
    rcases hd with c1 | ⟨c1, c2⟩ | ⟨c1, c2, c3⟩ | ⟨c1, c2, c3, c4⟩
    all_goals
      go_enter Try.func43, Try.ntmps43
      go_wp2_with fail
      go_ret
      exact ⟨rfl, HF.out.1⟩
end Go.Proofs.Ytkpfgoalohbfeaa

/- line, site: the sets of a row's nodes, a column's, a site's. -/
namespace Go.Proofs.Ytkpfgoalohbfeaa
open Go.RowKit

/-- A node of the row, or the column, 'at'. -/
def lineP (T at' : Nat) (col : Bool) (i : Nat) : Bool := if col then decide (((i % T : Nat) : Int) = (at' : Int)) else decide (((i / T : Nat) : Int) = (at' : Int))
def siteP (l : List Int) (z : Int) (i : Nat) : Bool := decide (l[i]? = some z)
theorem mask_lt12 {n : Nat} (hn : n ≤ 12) (p : Nat → Bool) : mask n p < 4096 := Nat.lt_of_lt_of_le (mask_lt n p) (show 2 ^ n ≤ 2 ^ 12 from Nat.pow_le_pow_right (by omega) hn)
theorem pow_int {j : Nat} (hj : j ≤ 12) : (2 : Int) ^ j % 4294967296 = ((2 ^ j : Nat) : Int) := by
  have h : (2 : Nat) ^ j ≤ 2 ^ 12 := Nat.pow_le_pow_right (by omega) hj
  have e : (2 : Int) ^ j = ((2 ^ j : Nat) : Int) := by simp
  rw [e]
  have h2 : (2 : Nat) ^ 12 = 4096 := rfl
  rw [h2] at h
  generalize (2 : Nat) ^ j = y at h
  omega
theorem or_next {j : Nat} {p : Nat → Bool} (hj : j < 12) (hp : p j = true) : bits .or .u32 ((mask j p : Nat) : Int) ((2 : Int) ^ j % 4294967296) = ((mask (j + 1) p : Nat) : Int) := by
  rw [pow_int (by omega), u32_or_nat _ _ (by have := mask_lt12 (n := j) (by omega) p; omega) (by have : (2 : Nat) ^ j ≤ 2 ^ 12 := Nat.pow_le_pow_right (by omega) (by omega); omega)]
  simp only [mask]
  rw [if_pos hp]
theorem mask_next {j : Nat} {p : Nat → Bool} (hp : p j = false) : mask (j + 1) p = mask j p := by
  simp only [mask]
  rw [if_neg (by rw [hp]; decide)]
theorem ret_u32 {a b : Int} (h : a = b) : Value.int .u32 a = .int .u32 b := by rw [h]

set_option maxRecDepth 100000 in
set_option maxHeartbeats 4000000 in
theorem line_any (k o : Int) (N T at' : Nat) (l : List Int) (col : Bool) (s : Value) (w : World) (hs : Ints w s l) (hN : N ≤ 12) (hT : 1 ≤ T) (hT2 : T ≤ 12) (ha : at' ≤ 12) :
    Calls Try.prog 82 #[.agg #[.int .i64 k, .int .i64 (N : Int), .int .i64 o, .int .i64 (T : Int), s], .int .i64 (at' : Int), .bool col] w fun e w' => e = .returned (.int .u32 (mask N (lineP T at' col) : Nat)) ∧ Fr (fun _ => False) w w' := by
  obtain ⟨A, c, rfl, -⟩ := hs
  have hf := (Fr.refl (fun _ => False) w).alloc (.cells #[.int .i64 k, .int .i64 (N : Int), .int .i64 o, .int .i64 (T : Int), .slice A l.length c] 24)
  have HF := Lib.hid hf
  clear hf
  have hT' : (1 : Int) ≤ (T : Int) := by omega
  have _u := ha
  clear _u
  cases col with
  | false =>
    go_enter Try.func82, Try.ntmps82
    go_wp2_with fail
    go_loopg [7, 11] N (fun g x7 x11 wr => ∃ (j : Nat), j + g = N ∧ x7 = .int .u32 (mask j (lineP T at' false) : Nat) ∧ x11 = .int .i64 j ∧ wr = w.alloc (.cells #[.int .i64 k, .int .i64 (N : Int), .int .i64 o, .int .i64 (T : Int), .slice A l.length c] 24))
    case atStart => exact ⟨0, by omega, rfl, rfl, rfl⟩
    case round =>
      obtain ⟨j, hj, rfl, rfl, hw⟩ := hrel
      have HJ := Lib.hid hj
      have hj' : j ≤ N := by omega
      clear hj
      subst hw
      have hm := mask_lt12 (n := j) (by omega) (lineP T at' false)
      have hd1 : 0 ≤ (j : Int) / (T : Int) := Int.ediv_nonneg (by omega) (by omega)
      have hd2 : (j : Int) / (T : Int) ≤ 12 := Int.le_trans (Int.ediv_le_self _ (by omega)) (by omega)
      by_cases hlt : j < N
      · cases hp : lineP T at' false j with
        | true =>
          have hp' : ((j : Int) / (T : Int) == (at' : Int)) = true := by simpa [lineP] using hp
          have HP := Lib.hid hp
          clear hp
          go_wp2_with fail
          go_roundg (N - (j + 1))
          case measure => have := HJ.out; omega
          case rel => exact ⟨j + 1, by have := HJ.out; omega, ret_u32 (or_next (by omega) HP.out), by go_num, rfl⟩
        | false =>
          have hp' : ((j : Int) / (T : Int) == (at' : Int)) = false := by simpa [lineP] using hp
          have HP := Lib.hid hp
          clear hp
          go_wp2_with fail
          go_roundg (N - (j + 1))
          case measure => have := HJ.out; omega
          case rel => exact ⟨j + 1, by have := HJ.out; omega, by rw [mask_next HP.out], by go_num, rfl⟩
      · obtain rfl : j = N := by omega
        go_wp2_with fail
        go_ret
        exact ⟨rfl, HF.out⟩
  | true =>
    go_enter Try.func82, Try.ntmps82
    go_wp2_with fail
    go_loopg [7, 11] N (fun g x7 x11 wr => ∃ (j : Nat), j + g = N ∧ x7 = .int .u32 (mask j (lineP T at' true) : Nat) ∧ x11 = .int .i64 j ∧ wr = w.alloc (.cells #[.int .i64 k, .int .i64 (N : Int), .int .i64 o, .int .i64 (T : Int), .slice A l.length c] 24))
    case atStart => exact ⟨0, by omega, rfl, rfl, rfl⟩
    case round =>
      obtain ⟨j, hj, rfl, rfl, hw⟩ := hrel
      have HJ := Lib.hid hj
      have hj' : j ≤ N := by omega
      clear hj
      subst hw
      have hm := mask_lt12 (n := j) (by omega) (lineP T at' true)
      have hd1 : 0 ≤ (j : Int) / (T : Int) := Int.ediv_nonneg (by omega) (by omega)
      have hd2 : (j : Int) / (T : Int) ≤ 12 := Int.le_trans (Int.ediv_le_self _ (by omega)) (by omega)
      by_cases hlt : j < N
      · cases hp : lineP T at' true j with
        | true =>
          have hp' : ((j : Int) % (T : Int) == (at' : Int)) = true := by simpa [lineP] using hp
          have HP := Lib.hid hp
          clear hp
          go_wp2_with fail
          go_roundg (N - (j + 1))
          case measure => have := HJ.out; omega
          case rel => exact ⟨j + 1, by have := HJ.out; omega, ret_u32 (or_next (by omega) HP.out), by go_num, rfl⟩
        | false =>
          have hp' : ((j : Int) % (T : Int) == (at' : Int)) = false := by simpa [lineP] using hp
          have HP := Lib.hid hp
          clear hp
          go_wp2_with fail
          go_roundg (N - (j + 1))
          case measure => have := HJ.out; omega
          case rel => exact ⟨j + 1, by have := HJ.out; omega, by rw [mask_next HP.out], by go_num, rfl⟩
      · obtain rfl : j = N := by omega
        go_wp2_with fail
        go_ret
        exact ⟨rfl, HF.out⟩

set_option maxRecDepth 100000 in
set_option maxHeartbeats 4000000 in
theorem site_any (k n o t z : Int) (l : List Int) (s : Value) (w : World) (hs : Ints w s l) (hN : l.length ≤ 12) :
    Calls Try.prog 83 #[.agg #[.int .i64 k, .int .i64 n, .int .i64 o, .int .i64 t, s], .int .i64 z] w fun e w' => e = .returned (.int .u32 (mask l.length (siteP l z) : Nat)) ∧ Fr (fun _ => False) w w' := by
  have hs0 := hs
  obtain ⟨A, c, rfl, -⟩ := hs0
  obtain ⟨w1, hw1⟩ : ∃ w1, w1 = w.alloc (.cells #[.int .i64 k, .int .i64 n, .int .i64 o, .int .i64 t, .slice A l.length c] 24) := ⟨_, rfl⟩
  have hf : Fr (fun _ => False) w w1 := by rw [hw1]; exact (Fr.refl _ w).alloc _
  have hb : Blk w1 w.heap.size 24 #[.int .i64 k, .int .i64 n, .int .i64 o, .int .i64 t, .slice A l.length c] := by rw [hw1]; exact Blk.new _ _ _
  have hs1 := hs.up hf
  have HF := Lib.hid hf
  have HS := Lib.hid hs1
  have HW := Lib.hid hw1
  have b4 := hb.cell 4 rfl
  clear hf hs1 hs hw1 hb
  go_enter Try.func83, Try.ntmps83
  go_upto_region 1 with (fail)
  rw [← HW.out]
  clear HW
  go_wp2_with fail
  go_loopg [5, 11] l.length (fun g x5 x11 wr => ∃ (j : Nat), j + g = l.length ∧ x5 = .int .u32 (mask j (siteP l z) : Nat) ∧ x11 = .int .i64 j ∧ w1 = wr)
  case atStart => exact ⟨0, by omega, rfl, rfl, rfl⟩
  case round =>
    obtain ⟨j, hj, rfl, rfl, hw⟩ := hrel
    have HJ := Lib.hid hj
    have hj' : j ≤ l.length := by omega
    clear hj
    subst hw
    have hm := mask_lt12 (n := j) (by omega) (siteP l z)
    by_cases hlt : j < l.length
    · obtain ⟨y, hy⟩ : ∃ y, l[j]? = some y := ⟨_, List.getElem?_eq_getElem hlt⟩
      obtain ⟨A', c', hA, h2⟩ := HS.out
      obtain ⟨b, off, rfl, h3⟩ := h2 (by rintro rfl; simp at hlt)
      injection hA with hA1 _ hA3
      subst hA1 hA3
      have q0 := h3 j y hy
      clear h2 h3
      cases hp : siteP l z j with
      | true =>
        have hp' : (y == z) = true := by simpa [siteP, hy] using hp
        have HP := Lib.hid hp
        clear hp hy
        go_wp2_with fail
        go_roundg (l.length - (j + 1))
        case measure => have := HJ.out; omega
        case rel => exact ⟨j + 1, by have := HJ.out; omega, ret_u32 (or_next (by omega) HP.out), by go_num, rfl⟩
      | false =>
        have hp' : (y == z) = false := by simpa [siteP, hy] using hp
        have HP := Lib.hid hp
        clear hp hy
        go_wp2_with fail
        go_roundg (l.length - (j + 1))
        case measure => have := HJ.out; omega
        case rel => exact ⟨j + 1, by have := HJ.out; omega, by rw [mask_next HP.out], by go_num, rfl⟩
    · obtain rfl : j = l.length := by omega
      go_wp2_with fail
      go_ret
      exact ⟨rfl, HF.out⟩
end Go.Proofs.Ytkpfgoalohbfeaa

/- First, Second: quorums of either phase. -/
namespace Go.Proofs.Ytkpfgoalohbfeaa
open Go.RowKit

/-- The systems that may be. -/
inductive Ok : Qu → Prop
  | one (N O T : Nat) (s : List Int) (n1 : 1 ≤ N) (n12 : N ≤ 12) (o1 : 1 ≤ O) (oN : O ≤ N) (t1 : 1 ≤ T) (tN : T ≤ N) (m : N < O + T) : Ok ⟨1, N, O, T, s⟩
  | two (N O T : Nat) (s : List Int) (n1 : 1 ≤ N) (n12 : N ≤ 12) (o1 : 1 ≤ O) (oN : O ≤ N) (t1 : 1 ≤ T) (tN : T ≤ N) (m : O * T = N) : Ok ⟨2, N, O, T, s⟩
  | three (o t : Int) (s : List Int) (n1 : 1 ≤ s.length) (n12 : s.length ≤ 12) (b : s.any badS = false) : Ok ⟨3, s.length, o, t, s⟩
theorem ok_of {q : Qu} (h : rightE q = 0) : Ok q := by
  obtain ⟨k, n, o, t, s⟩ := q
  unfold rightE at h
  split at h
  · omega
  rename_i hn
  simp only at hn h
  split at h
  · rename_i hk
    subst hk
    split at h
    · rename_i hc
      simp only [cts, decide_eq_true_eq] at hc
      split at h
      · omega
      · rename_i hm
        obtain ⟨N, rfl⟩ := Int.eq_ofNat_of_zero_le (show 0 ≤ n by omega)
        obtain ⟨O, rfl⟩ := Int.eq_ofNat_of_zero_le (show 0 ≤ o by omega)
        obtain ⟨T, rfl⟩ := Int.eq_ofNat_of_zero_le (show 0 ≤ t by omega)
        exact .one N O T s (by omega) (by omega) (by omega) (by omega) (by omega) (by omega) (by omega)
    · omega
  · split at h
    · rename_i _ hk
      subst hk
      split at h
      · rename_i hc
        simp only [cts, Bool.and_eq_true, decide_eq_true_eq] at hc
        obtain ⟨hc, hm⟩ := hc
        obtain ⟨N, rfl⟩ := Int.eq_ofNat_of_zero_le (show 0 ≤ n by omega)
        obtain ⟨O, rfl⟩ := Int.eq_ofNat_of_zero_le (show 0 ≤ o by omega)
        obtain ⟨T, rfl⟩ := Int.eq_ofNat_of_zero_le (show 0 ≤ t by omega)
        exact .two N O T s (by omega) (by omega) (by omega) (by omega) (by omega) (by omega) (by exact_mod_cast hm)
      · omega
    · split at h
      · rename_i _ _ hk
        subst hk
        split at h
        · rename_i hc
          simp only [Bool.and_eq_true, decide_eq_true_eq, Bool.not_eq_true'] at hc
          obtain ⟨hc, hb⟩ := hc
          subst hc
          exact .three o t s (by omega) (by omega) hb
        · omega
      · omega
theorem Ok.right {q : Qu} (h : Ok q) : rightE q = 0 := by
  cases h with
  | one N O T s n1 n12 o1 oN t1 tN m =>
    unfold rightE
    rw [if_neg (by simp only; omega), if_pos rfl, show cts ⟨1, N, O, T, s⟩ = true by simp [cts]; omega, if_pos rfl, if_neg (by simp only; omega)]
  | two N O T s n1 n12 o1 oN t1 tN m =>
    unfold rightE
    rw [if_neg (by simp only; omega), if_neg (by simp), if_pos rfl, show cts ⟨2, N, O, T, s⟩ = true by simp [cts]; omega]
    have : (O : Int) * (T : Int) = (N : Int) := by exact_mod_cast m
    simp [this]
  | three o t s n1 n12 b =>
    unfold rightE
    rw [if_neg (by simp only; omega), if_neg (by simp), if_neg (by simp), if_pos rfl, b]
    simp
theorem Ok.n {q : Qu} (h : Ok q) : 1 ≤ q.n.toNat ∧ q.n.toNat ≤ 12 ∧ q.n = (q.n.toNat : Int) := by cases h <;> simp only <;> omega


/-- The set, cut to the nodes that there are. -/
theorem cut_eq (N X : Nat) (hN : N ≤ 12) (hX : X < 4294967296) : bits .and .u32 (X : Int) (((2 : Int) ^ N - 1) % 4294967296) = ((X % 2 ^ N : Nat) : Int) := by
  have h : (2 : Nat) ^ N ≤ 4096 := (Nat.pow_le_pow_right (by omega) hN : (2 : Nat) ^ N ≤ 2 ^ 12)
  have h0 := Nat.two_pow_pos N
  have e : ((2 : Int) ^ N - 1) % 4294967296 = ((2 ^ N - 1 : Nat) : Int) := by
    have e1 : (2 : Int) ^ N = ((2 ^ N : Nat) : Int) := by simp
    rw [e1]
    generalize (2 : Nat) ^ N = y at h h0
    omega
  rw [e, u32_and_nat _ _ hX (by omega), Nat.and_two_pow_sub_one_eq_mod]
theorem cut_eq' (N X : Nat) (hN : N ≤ 12) (hX : X < 4294967296) : ∃ K : Nat, (2 : Int) ^ N % 4294967296 = (K : Int) ∧ 1 ≤ K ∧ K ≤ 4096 ∧ bits .and .u32 (X : Int) ((K : Int) - 1) = ((X % 2 ^ N : Nat) : Int) := by
  have h : (2 : Nat) ^ N ≤ 4096 := (Nat.pow_le_pow_right (by omega) hN : (2 : Nat) ^ N ≤ 2 ^ 12)
  have h0 := Nat.two_pow_pos N
  have h1 := cut_eq N X hN hX
  refine ⟨2 ^ N, pow_int hN, h0, h, ?_⟩
  have e1 : (2 : Int) ^ N = ((2 ^ N : Nat) : Int) := by simp
  rw [← h1, e1]
  congr 1
  generalize (2 : Nat) ^ N = y at h h0
  omega
theorem cut_bit (N X i : Nat) (hi : i < N) : (X % 2 ^ N).testBit i = X.testBit i := by rw [Nat.testBit_mod_two_pow]; simp [hi]
theorem cut_lt (N X : Nat) (hN : N ≤ 12) : X % 2 ^ N < 4096 := Nat.lt_of_lt_of_le (Nat.mod_lt _ (Nat.two_pow_pos N)) (Nat.pow_le_pow_right (by omega) hN : (2 : Nat) ^ N ≤ 2 ^ 12)
theorem cnt_cut (N X : Nat) (hN : N ≤ 12) : cnt 12 (X % 2 ^ N).testBit = cnt N X.testBit := by
  obtain ⟨M, hM⟩ : ∃ M, 12 = N + M := ⟨12 - N, by omega⟩
  rw [hM, cnt_add]
  have e3 : cnt M (fun i => (X % 2 ^ N).testBit (N + i)) = 0 := by
    rw [cnt_congr (p' := fun _ => false) fun i hi => ?_]
    · clear hM
      induction M with
      | zero => rfl
      | succ M ih => simpa [cnt] using ih
    · rw [Nat.testBit_mod_two_pow, decide_eq_false (by omega)]; rfl
  rw [e3, Nat.add_zero]
  exact cnt_congr fun i hi => cut_bit N X i hi
theorem and_eq (x y : Nat) (hx : x < 4096) (hy : y < 4096) : bits .and .u32 (x : Int) (y : Int) = ((x &&& y : Nat) : Int) := u32_and_nat _ _ (by omega) (by omega)
theorem eq_nat (x y : Nat) : ((x : Int) == (y : Int)) = (x == y) := by
  rw [Bool.eq_iff_iff]
  simp only [beq_iff_eq]
  omega

set_option maxRecDepth 100000 in
set_option maxHeartbeats 4000000 in
theorem first_bad (q : Qu) (s : Value) (X : Nat) (w : World) (hs : Ints w s q.s) (hl : q.s.length ≤ 1000) (h : ¬ rightE q = 0) :
    Calls Try.prog 71 #[q.v s, .int .u32 X] w fun e w' => e = .returned (.bool false) ∧ Fr (fun _ => False) w w' := by
  have HC := Lib.hid (right_any q s)
  obtain ⟨k, n, o, t, l⟩ := q
  have hs0 := hs
  obtain ⟨A, c, rfl, -⟩ := hs0
  have hf := (Fr.refl (fun _ => False) w).alloc (.cells #[.int .i64 k, .int .i64 n, .int .i64 o, .int .i64 t, .slice A l.length c] 24)
  have HF := Lib.hid (And.intro hf (hs.up hf))
  simp only [Qu.v] at hl HC ⊢
  have h' : (rightE ⟨k, n, o, t, l⟩ == 0) = false := by simp [h]
  clear hf hs h
  go_enter Try.func71, Try.ntmps71
  go_wp2_with fail
  refine (HC.out _ HF.out.2 hl).mono ?_
  rintro e w2 ⟨rfl, hf2⟩
  go_wp2_with fail
  go_ret
  exact ⟨rfl, HF.out.1.tr hf2⟩

set_option maxRecDepth 100000 in
set_option maxHeartbeats 4000000 in
theorem first_one (N O T : Nat) (l : List Int) (n1 : 1 ≤ N) (n12 : N ≤ 12) (o1 : 1 ≤ O) (oN : O ≤ N) (t1 : 1 ≤ T) (tN : T ≤ N) (m : N < O + T) (s : Value) (X : Nat) (hX : X < 4294967296) (w : World) (hs : Ints w s l) (hl : l.length ≤ 1000) :
    Calls Try.prog 71 #[.agg #[.int .i64 1, .int .i64 N, .int .i64 O, .int .i64 T, s], .int .u32 X] w fun e w' => e = .returned (.bool (quo ⟨1, N, O, T, l⟩ false (X % 2 ^ N).testBit)) ∧ Fr (fun _ => False) w w' := by
  have HC := Lib.hid (right_any ⟨1, N, O, T, l⟩ s)
  have HE := Lib.hid (Ok.one N O T l n1 n12 o1 oN t1 tN m).right
  have hs0 := hs
  obtain ⟨A, c, rfl, -⟩ := hs0
  obtain ⟨w1, hw1⟩ : ∃ w1, w1 = w.alloc (.cells #[.int .i64 1, .int .i64 N, .int .i64 O, .int .i64 T, .slice A l.length c] 24) := ⟨_, rfl⟩
  obtain ⟨q0, hq0⟩ : ∃ q0, q0 = w.heap.size := ⟨_, rfl⟩
  have hf : Fr (fun _ => False) w w1 := by rw [hw1]; exact (Fr.refl _ w).alloc _
  have hb : Blk w1 q0 24 #[.int .i64 1, .int .i64 N, .int .i64 O, .int .i64 T, .slice A l.length c] := by rw [hw1, hq0]; exact Blk.new _ _ _
  have HW := Lib.hid hw1
  have HQ := Lib.hid hq0
  have HF := Lib.hid (And.intro hf (hs.up hf))
  have b0 := hb.cell 0 rfl
  have b1 := hb.cell 1 rfl
  have b2 := hb.cell 2 rfl
  have b3 := hb.cell 3 rfl
  have b4 := hb.cell 4 rfl
  obtain ⟨K, hp2, hK1, hK2, hcut⟩ := cut_eq' N X (by omega) hX
  have hY := cut_lt N X (by omega)
  obtain ⟨Y, hYe⟩ : ∃ Y, Y = X % 2 ^ N := ⟨_, rfl⟩
  rw [← hYe] at hcut hY
  have hc12 : cnt 12 Y.testBit = cnt N X.testBit := by rw [hYe]; exact cnt_cut _ _ (by omega)
  have hcn : cnt N Y.testBit = cnt N X.testBit := by rw [hYe]; exact cnt_congr fun i hi => cut_bit _ X i hi
  have hq := (show quo ⟨1, N, O, T, l⟩ false (X % 2 ^ N).testBit = decide (((O : Nat) : Int) ≤ (cnt N (X % 2 ^ N).testBit : Int)) by unfold quo; rw [if_pos rfl]; rfl)
  rw [hYe.symm] at hq
  have HY := Lib.hid (And.intro hq (And.intro hc12 hcn))
  rw [← hYe]
  simp only [Qu.v] at HC
  clear hf hs hw1 hq0 hYe hc12 hq hcn
  go_enter Try.func71, Try.ntmps71
  go_upto_region 1 with (fail)
  rw [← HW.out, ← HQ.out]
  clear HW HQ
  go_wp2_with fail
  refine (HC.out w1 HF.out.2 (by omega)).mono ?_
  rintro e w2 ⟨rfl, hf2⟩
  rw [HE.out]
  have hb2 := hb.fr hf2 (fun h => h)
  have hff := HF.out.1.tr hf2
  have hs2 := HF.out.2.up hf2
  clear b0 b1 b2 b3 b4 hf2 hb HF HC
  have b0 := hb2.cell 0 rfl
  have b1 := hb2.cell 1 rfl
  have b2 := hb2.cell 2 rfl
  have b3 := hb2.cell 3 rfl
  have b4 := hb2.cell 4 rfl
  go_wp2_with fail
  go_quiet ((go_at_call 81; exact Calls.quiet_of (ones_any Y hY _)))
  go_wp2_with fail
  go_ret
  refine ⟨?_, hff.drewN _⟩
  rw [HY.out.1, HY.out.2.2, ← HY.out.2.1]
  show Ending.returned (.bool (decide (O ≤ cnt 12 Y.testBit))) = _
  congr 2
  rw [decide_eq_decide]
  omega

set_option maxRecDepth 100000 in
set_option maxHeartbeats 4000000 in
theorem first_two (N O T : Nat) (l : List Int) (n1 : 1 ≤ N) (n12 : N ≤ 12) (o1 : 1 ≤ O) (oN : O ≤ N) (t1 : 1 ≤ T) (tN : T ≤ N) (m : O * T = N) (s : Value) (X : Nat) (hX : X < 4294967296) (w : World) (hs : Ints w s l) (hl : l.length ≤ 1000) :
    Calls Try.prog 71 #[.agg #[.int .i64 2, .int .i64 N, .int .i64 O, .int .i64 T, s], .int .u32 X] w fun e w' => e = .returned (.bool (quo ⟨2, N, O, T, l⟩ false (X % 2 ^ N).testBit)) ∧ Fr (fun _ => False) w w' := by
  have HC := Lib.hid (right_any ⟨2, N, O, T, l⟩ s)
  have HE := Lib.hid (Ok.two N O T l n1 n12 o1 oN t1 tN m).right
  have hs0 := hs
  obtain ⟨A, c, rfl, -⟩ := hs0
  obtain ⟨w1, hw1⟩ : ∃ w1, w1 = w.alloc (.cells #[.int .i64 2, .int .i64 N, .int .i64 O, .int .i64 T, .slice A l.length c] 24) := ⟨_, rfl⟩
  obtain ⟨q0, hq0⟩ : ∃ q0, q0 = w.heap.size := ⟨_, rfl⟩
  have hf : Fr (fun _ => False) w w1 := by rw [hw1]; exact (Fr.refl _ w).alloc _
  have hb : Blk w1 q0 24 #[.int .i64 2, .int .i64 N, .int .i64 O, .int .i64 T, .slice A l.length c] := by rw [hw1, hq0]; exact Blk.new _ _ _
  have HW := Lib.hid hw1
  have HQ := Lib.hid hq0
  have HF := Lib.hid (And.intro hf (hs.up hf))
  have b0 := hb.cell 0 rfl
  have b1 := hb.cell 1 rfl
  have b2 := hb.cell 2 rfl
  have b3 := hb.cell 3 rfl
  have b4 := hb.cell 4 rfl
  obtain ⟨K, hp2, hK1, hK2, hcut⟩ := cut_eq' N X (by omega) hX
  have hY := cut_lt N X (by omega)
  obtain ⟨Y, hYe⟩ : ∃ Y, Y = X % 2 ^ N := ⟨_, rfl⟩
  rw [← hYe] at hcut hY
  have hc12 : cnt 12 Y.testBit = cnt N X.testBit := by rw [hYe]; exact cnt_cut _ _ (by omega)
  have hcn : cnt N Y.testBit = cnt N X.testBit := by rw [hYe]; exact cnt_congr fun i hi => cut_bit _ X i hi
  have hq := (show quo ⟨2, N, O, T, l⟩ false (X % 2 ^ N).testBit = anyN O (fun r => allN N fun i => !lineP T r false i || (X % 2 ^ N).testBit i) by unfold quo; rw [if_neg (by simp), if_pos rfl]; rfl)
  rw [hYe.symm] at hq
  have HY := Lib.hid (And.intro hq (And.intro hc12 hcn))
  rw [← hYe]
  simp only [Qu.v] at HC
  clear hf hs hw1 hq0 hYe hc12 hq hcn
  go_enter Try.func71, Try.ntmps71
  go_upto_region 1 with (fail)
  rw [← HW.out, ← HQ.out]
  clear HW HQ
  go_wp2_with fail
  refine (HC.out w1 HF.out.2 (by omega)).mono ?_
  rintro e w2 ⟨rfl, hf2⟩
  rw [HE.out]
  have hb2 := hb.fr hf2 (fun h => h)
  have hff := HF.out.1.tr hf2
  have hs2 := HF.out.2.up hf2
  clear b0 b1 b2 b3 b4 hf2 hb HF HC
  have b0 := hb2.cell 0 rfl
  have b1 := hb2.cell 1 rfl
  have b2 := hb2.cell 2 rfl
  have b3 := hb2.cell 3 rfl
  have b4 := hb2.cell 4 rfl
  go_wp2_with fail
  rw [hp2]
  go_loopg [31] O (fun g x31 wr => ∃ (j : Nat), j + g = O ∧ x31 = .int .i64 j ∧ anyN j (fun r => allN N fun i => !lineP T r false i || Y.testBit i) = false ∧ Fr (fun _ => False) w2 wr)
  case atStart => exact ⟨0, by omega, rfl, rfl, Fr.refl _ _⟩
  case round =>
    obtain ⟨j, hj, rfl, hno, hfr⟩ := hrel
    have HJ := Lib.hid (And.intro hj hno)
    have hj' : j ≤ O := by omega
    clear hj hno b0 b1 b2 b3 b4
    have hbr := hb2.fr hfr (fun h => h)
    have hsr := hs2.up hfr
    have b0 := hbr.cell 0 rfl
    have b1 := hbr.cell 1 rfl
    have b2 := hbr.cell 2 rfl
    have b3 := hbr.cell 3 rfl
    have b4 := hbr.cell 4 rfl
    by_cases hlt : j < O
    · have hml := mask_lt12 (n := N) n12 (lineP T j false)
      have hae := and_eq Y _ hY hml
      have haa := and_all N Y (lineP T j false)
      obtain ⟨M, hM⟩ : ∃ M, M = mask N (lineP T j false) := ⟨_, rfl⟩
      rw [← hM] at hml hae haa
      obtain ⟨Z, hZ⟩ : ∃ Z, Z = Y &&& M := ⟨_, rfl⟩
      rw [← hZ] at hae haa
      rw [← eq_nat] at haa
      have HM := Lib.hid hM
      have HA := Lib.hid haa
      clear hM hZ haa
      go_wp2_with fail
      refine (line_any 2 O N T j l false _ _ hsr n12 (by omega) (by omega) (by omega)).mono ?_
      rintro e w4 ⟨rfl, hf4⟩
      rw [← HM.out]
      have hfr4 := hfr.tr hf4
      clear b0 b1 b2 b3 b4 hf4
      cases hz : ((Z : Int) == (M : Int)) with
      | true =>
        go_wp2_with fail
        go_ret
        refine ⟨?_, hff.tr hfr4⟩
        rw [HY.out.1]
        have : anyN O (fun r => allN N fun i => !lineP T r false i || Y.testBit i) = true := anyN_iff.2 ⟨j, hlt, by rw [← HA.out, hz]⟩
        rw [this]
        rfl
      | false =>
        have HZ := Lib.hid hz
        go_wp2_with fail
        go_roundg (O - (j + 1))
        case measure => have := HJ.out; omega
        case rel => exact ⟨j + 1, by have := HJ.out; omega, by go_num, by simp only [anyN]; rw [HJ.out.2, ← HA.out, HZ.out]; rfl, hfr4⟩
    · obtain rfl : j = O := by omega
      go_wp2_with fail
      go_ret
      refine ⟨?_, hff.tr hfr⟩
      rw [HY.out.1, HJ.out.2]
      rfl

set_option maxRecDepth 100000 in
set_option maxHeartbeats 4000000 in
theorem first_three (o t : Int) (l : List Int) (n1 : 1 ≤ l.length) (n12 : l.length ≤ 12) (b : l.any badS = false) (s : Value) (X : Nat) (hX : X < 4294967296) (w : World) (hs : Ints w s l) (hl : l.length ≤ 1000) :
    Calls Try.prog 71 #[.agg #[.int .i64 3, .int .i64 l.length, .int .i64 o, .int .i64 t, s], .int .u32 X] w fun e w' => e = .returned (.bool (quo ⟨3, l.length, o, t, l⟩ false (X % 2 ^ l.length).testBit)) ∧ Fr (fun _ => False) w w' := by
  have HC := Lib.hid (right_any ⟨3, l.length, o, t, l⟩ s)
  have HE := Lib.hid (Ok.three o t l n1 n12 b).right
  have hs0 := hs
  obtain ⟨A, c, rfl, -⟩ := hs0
  obtain ⟨w1, hw1⟩ : ∃ w1, w1 = w.alloc (.cells #[.int .i64 3, .int .i64 l.length, .int .i64 o, .int .i64 t, .slice A l.length c] 24) := ⟨_, rfl⟩
  obtain ⟨q0, hq0⟩ : ∃ q0, q0 = w.heap.size := ⟨_, rfl⟩
  have hf : Fr (fun _ => False) w w1 := by rw [hw1]; exact (Fr.refl _ w).alloc _
  have hb : Blk w1 q0 24 #[.int .i64 3, .int .i64 l.length, .int .i64 o, .int .i64 t, .slice A l.length c] := by rw [hw1, hq0]; exact Blk.new _ _ _
  have HW := Lib.hid hw1
  have HQ := Lib.hid hq0
  have HF := Lib.hid (And.intro hf (hs.up hf))
  have b0 := hb.cell 0 rfl
  have b1 := hb.cell 1 rfl
  have b2 := hb.cell 2 rfl
  have b3 := hb.cell 3 rfl
  have b4 := hb.cell 4 rfl
  obtain ⟨K, hp2, hK1, hK2, hcut⟩ := cut_eq' l.length X (by omega) hX
  have hY := cut_lt l.length X (by omega)
  obtain ⟨Y, hYe⟩ : ∃ Y, Y = X % 2 ^ l.length := ⟨_, rfl⟩
  rw [← hYe] at hcut hY
  have hc12 : cnt 12 Y.testBit = cnt l.length X.testBit := by rw [hYe]; exact cnt_cut _ _ (by omega)
  have hcn : cnt l.length Y.testBit = cnt l.length X.testBit := by rw [hYe]; exact cnt_congr fun i hi => cut_bit _ X i hi
  have hq := (show quo ⟨3, l.length, o, t, l⟩ false (X % 2 ^ l.length).testBit = allN l.length (fun j => anyN l.length fun i => decide (l[i]? = l[j]?) && (X % 2 ^ l.length).testBit i) by unfold quo; rw [if_neg (by simp), if_neg (by simp)]; rfl)
  rw [hYe.symm] at hq
  have HY := Lib.hid (And.intro hq (And.intro hc12 hcn))
  rw [← hYe]
  simp only [Qu.v] at HC
  clear hf hs hw1 hq0 hYe hc12 hq hcn
  go_enter Try.func71, Try.ntmps71
  go_upto_region 1 with (fail)
  rw [← HW.out, ← HQ.out]
  clear HW HQ
  go_wp2_with fail
  refine (HC.out w1 HF.out.2 (by omega)).mono ?_
  rintro e w2 ⟨rfl, hf2⟩
  rw [HE.out]
  have hb2 := hb.fr hf2 (fun h => h)
  have hff := HF.out.1.tr hf2
  have hs2 := HF.out.2.up hf2
  clear b0 b1 b2 b3 b4 hf2 hb HF HC
  have b0 := hb2.cell 0 rfl
  have b1 := hb2.cell 1 rfl
  have b2 := hb2.cell 2 rfl
  have b3 := hb2.cell 3 rfl
  have b4 := hb2.cell 4 rfl
  go_wp2_with fail
  rw [hp2]
  go_loopg [46] l.length (fun g x46 wr => ∃ (j : Nat), j + g = l.length ∧ x46 = .int .i64 j ∧ allN j (fun j => anyN l.length fun i => decide (l[i]? = l[j]?) && Y.testBit i) = true ∧ Fr (fun _ => False) w2 wr)
  case atStart => exact ⟨0, by omega, rfl, rfl, Fr.refl _ _⟩
  case round =>
    obtain ⟨j, hj, rfl, hno, hfr⟩ := hrel
    have HJ := Lib.hid (And.intro hj hno)
    have hj' : j ≤ l.length := by omega
    clear hj hno b0 b1 b2 b3 b4
    have hbr := hb2.fr hfr (fun h => h)
    have hsr := hs2.up hfr
    have b0 := hbr.cell 0 rfl
    have b1 := hbr.cell 1 rfl
    have b2 := hbr.cell 2 rfl
    have b3 := hbr.cell 3 rfl
    have b4 := hbr.cell 4 rfl
    by_cases hlt : j < l.length
    · obtain ⟨y, hy⟩ : ∃ y, l[j]? = some y := ⟨_, List.getElem?_eq_getElem hlt⟩
      have hsr0 := hsr
      obtain ⟨A', c', hA, h2⟩ := hsr0
      obtain ⟨bb, off, rfl, h3⟩ := h2 (by rintro rfl; simp at hlt)
      injection hA with hA1 _ hA3
      subst hA1 hA3
      have g0 := h3 j y hy
      clear h2 h3
      have hml := mask_lt12 (n := l.length) n12 (siteP l y)
      have hae := and_eq Y _ hY hml
      have haa := and_none l.length Y (siteP l y)
      obtain ⟨M, hM⟩ : ∃ M, M = mask l.length (siteP l y) := ⟨_, rfl⟩
      rw [← hM] at hml hae haa
      obtain ⟨Z, hZ⟩ : ∃ Z, Z = Y &&& M := ⟨_, rfl⟩
      rw [← hZ] at hae haa
      rw [← eq_nat] at haa
      unfold siteP at haa
      rw [← hy] at haa
      have HM := Lib.hid hM
      have HA := Lib.hid haa
      clear hM hZ haa hy
      go_wp2_with fail
      refine (site_any 3 l.length o t y l _ _ hsr n12).mono ?_
      rintro e w4 ⟨rfl, hf4⟩
      rw [← HM.out]
      have hfr4 := hfr.tr hf4
      clear b0 b1 b2 b3 b4 hf4 g0
      cases hz : ((Z : Int) == ((0 : Nat) : Int)) with
      | true =>
        have HZ := Lib.hid hz
        have hz' : Z = 0 := by simpa using hz
        go_wp2_with fail
        go_ret
        refine ⟨?_, hff.tr hfr4⟩
        rw [HY.out.1]
        have : allN l.length (fun j => anyN l.length fun i => decide (l[i]? = l[j]?) && Y.testBit i) = false := by
          rw [Bool.eq_false_iff]
          intro h
          have h1 := allN_iff.1 h j hlt
          have h2 := HA.out
          rw [HZ.out, h1] at h2
          cases h2
        rw [this]
        rfl
      | false =>
        have HZ := Lib.hid hz
        have hz' : ((Z : Int) == 0) = false := hz
        go_wp2_with fail
        go_roundg (l.length - (j + 1))
        case measure => have := HJ.out; omega
        case rel =>
          refine ⟨j + 1, by have := HJ.out; omega, by go_num, ?_, hfr4⟩
          simp only [allN]
          rw [HJ.out.2]
          have h2 := HA.out
          rw [HZ.out] at h2
          simpa using h2.symm
    · obtain rfl : j = l.length := by omega
      go_wp2_with fail
      go_ret
      refine ⟨?_, hff.tr hfr⟩
      rw [HY.out.1, HJ.out.2]
      rfl

theorem first_any (q : Qu) (s : Value) (X : Nat) (hX : X < 4294967296) (w : World) (hs : Ints w s q.s) (hl : q.s.length ≤ 1000) :
    Calls Try.prog 71 #[q.v s, .int .u32 X] w fun e w' => e = .returned (.bool (isQ q false X.testBit)) ∧ Fr (fun _ => False) w w' := by
  by_cases h : rightE q = 0
  · have ho := ok_of h
    have e : isQ q false X.testBit = quo q false (X % 2 ^ q.n.toNat).testBit := by
      unfold isQ okQ
      rw [h]
      show (true && _) = _
      rw [Bool.true_and]
      exact quo_congr fun i hi => (cut_bit _ X i hi).symm
    rw [e]
    cases ho with
    | one N O T l n1 n12 o1 oN t1 tN m => exact first_one N O T l n1 n12 o1 oN t1 tN m s X hX w hs hl
    | two N O T l n1 n12 o1 oN t1 tN m => exact first_two N O T l n1 n12 o1 oN t1 tN m s X hX w hs hl
    | three o t l n1 n12 b => exact first_three o t l n1 n12 b s X hX w hs hl
  · have e : isQ q false X.testBit = false := by
      unfold isQ okQ
      rw [show (rightE q == 0) = false by simp [h]]
      rfl
    rw [e]
    exact first_bad q s X w hs hl h

set_option maxRecDepth 100000 in
set_option maxHeartbeats 4000000 in
theorem second_bad (q : Qu) (s : Value) (X : Nat) (w : World) (hs : Ints w s q.s) (hl : q.s.length ≤ 1000) (h : ¬ rightE q = 0) :
    Calls Try.prog 75 #[q.v s, .int .u32 X] w fun e w' => e = .returned (.bool false) ∧ Fr (fun _ => False) w w' := by
  have HC := Lib.hid (right_any q s)
  obtain ⟨k, n, o, t, l⟩ := q
  have hs0 := hs
  obtain ⟨A, c, rfl, -⟩ := hs0
  have hf := (Fr.refl (fun _ => False) w).alloc (.cells #[.int .i64 k, .int .i64 n, .int .i64 o, .int .i64 t, .slice A l.length c] 24)
  have HF := Lib.hid (And.intro hf (hs.up hf))
  simp only [Qu.v] at hl HC ⊢
  have h' : (rightE ⟨k, n, o, t, l⟩ == 0) = false := by simp [h]
  clear hf hs h
  go_enter Try.func75, Try.ntmps75
  go_wp2_with fail
  refine (HC.out _ HF.out.2 hl).mono ?_
  rintro e w2 ⟨rfl, hf2⟩
  go_wp2_with fail
  go_ret
  exact ⟨rfl, HF.out.1.tr hf2⟩

set_option maxRecDepth 100000 in
set_option maxHeartbeats 4000000 in
theorem second_one (N O T : Nat) (l : List Int) (n1 : 1 ≤ N) (n12 : N ≤ 12) (o1 : 1 ≤ O) (oN : O ≤ N) (t1 : 1 ≤ T) (tN : T ≤ N) (m : N < O + T) (s : Value) (X : Nat) (hX : X < 4294967296) (w : World) (hs : Ints w s l) (hl : l.length ≤ 1000) :
    Calls Try.prog 75 #[.agg #[.int .i64 1, .int .i64 N, .int .i64 O, .int .i64 T, s], .int .u32 X] w fun e w' => e = .returned (.bool (quo ⟨1, N, O, T, l⟩ true (X % 2 ^ N).testBit)) ∧ Fr (fun _ => False) w w' := by
  have HC := Lib.hid (right_any ⟨1, N, O, T, l⟩ s)
  have HE := Lib.hid (Ok.one N O T l n1 n12 o1 oN t1 tN m).right
  have hs0 := hs
  obtain ⟨A, c, rfl, -⟩ := hs0
  obtain ⟨w1, hw1⟩ : ∃ w1, w1 = w.alloc (.cells #[.int .i64 1, .int .i64 N, .int .i64 O, .int .i64 T, .slice A l.length c] 24) := ⟨_, rfl⟩
  obtain ⟨q0, hq0⟩ : ∃ q0, q0 = w.heap.size := ⟨_, rfl⟩
  have hf : Fr (fun _ => False) w w1 := by rw [hw1]; exact (Fr.refl _ w).alloc _
  have hb : Blk w1 q0 24 #[.int .i64 1, .int .i64 N, .int .i64 O, .int .i64 T, .slice A l.length c] := by rw [hw1, hq0]; exact Blk.new _ _ _
  have HW := Lib.hid hw1
  have HQ := Lib.hid hq0
  have HF := Lib.hid (And.intro hf (hs.up hf))
  have b0 := hb.cell 0 rfl
  have b1 := hb.cell 1 rfl
  have b2 := hb.cell 2 rfl
  have b3 := hb.cell 3 rfl
  have b4 := hb.cell 4 rfl
  obtain ⟨K, hp2, hK1, hK2, hcut⟩ := cut_eq' N X (by omega) hX
  have hY := cut_lt N X (by omega)
  obtain ⟨Y, hYe⟩ : ∃ Y, Y = X % 2 ^ N := ⟨_, rfl⟩
  rw [← hYe] at hcut hY
  have hc12 : cnt 12 Y.testBit = cnt N X.testBit := by rw [hYe]; exact cnt_cut _ _ (by omega)
  have hcn : cnt N Y.testBit = cnt N X.testBit := by rw [hYe]; exact cnt_congr fun i hi => cut_bit _ X i hi
  have hq := (show quo ⟨1, N, O, T, l⟩ true (X % 2 ^ N).testBit = decide (((T : Nat) : Int) ≤ (cnt N (X % 2 ^ N).testBit : Int)) by unfold quo; rw [if_pos rfl]; rfl)
  rw [hYe.symm] at hq
  have HY := Lib.hid (And.intro hq (And.intro hc12 hcn))
  rw [← hYe]
  simp only [Qu.v] at HC
  clear hf hs hw1 hq0 hYe hc12 hq hcn
  go_enter Try.func75, Try.ntmps75
  go_upto_region 1 with (fail)
  rw [← HW.out, ← HQ.out]
  clear HW HQ
  go_wp2_with fail
  refine (HC.out w1 HF.out.2 (by omega)).mono ?_
  rintro e w2 ⟨rfl, hf2⟩
  rw [HE.out]
  have hb2 := hb.fr hf2 (fun h => h)
  have hff := HF.out.1.tr hf2
  have hs2 := HF.out.2.up hf2
  clear b0 b1 b2 b3 b4 hf2 hb HF HC
  have b0 := hb2.cell 0 rfl
  have b1 := hb2.cell 1 rfl
  have b2 := hb2.cell 2 rfl
  have b3 := hb2.cell 3 rfl
  have b4 := hb2.cell 4 rfl
  go_wp2_with fail
  go_quiet ((go_at_call 81; exact Calls.quiet_of (ones_any Y hY _)))
  go_wp2_with fail
  go_ret
  refine ⟨?_, hff.drewN _⟩
  rw [HY.out.1, HY.out.2.2, ← HY.out.2.1]
  show Ending.returned (.bool (decide (T ≤ cnt 12 Y.testBit))) = _
  congr 2
  rw [decide_eq_decide]
  omega

set_option maxRecDepth 100000 in
set_option maxHeartbeats 4000000 in
theorem second_two (N O T : Nat) (l : List Int) (n1 : 1 ≤ N) (n12 : N ≤ 12) (o1 : 1 ≤ O) (oN : O ≤ N) (t1 : 1 ≤ T) (tN : T ≤ N) (m : O * T = N) (s : Value) (X : Nat) (hX : X < 4294967296) (w : World) (hs : Ints w s l) (hl : l.length ≤ 1000) :
    Calls Try.prog 75 #[.agg #[.int .i64 2, .int .i64 N, .int .i64 O, .int .i64 T, s], .int .u32 X] w fun e w' => e = .returned (.bool (quo ⟨2, N, O, T, l⟩ true (X % 2 ^ N).testBit)) ∧ Fr (fun _ => False) w w' := by
  have HC := Lib.hid (right_any ⟨2, N, O, T, l⟩ s)
  have HE := Lib.hid (Ok.two N O T l n1 n12 o1 oN t1 tN m).right
  have hs0 := hs
  obtain ⟨A, c, rfl, -⟩ := hs0
  obtain ⟨w1, hw1⟩ : ∃ w1, w1 = w.alloc (.cells #[.int .i64 2, .int .i64 N, .int .i64 O, .int .i64 T, .slice A l.length c] 24) := ⟨_, rfl⟩
  obtain ⟨q0, hq0⟩ : ∃ q0, q0 = w.heap.size := ⟨_, rfl⟩
  have hf : Fr (fun _ => False) w w1 := by rw [hw1]; exact (Fr.refl _ w).alloc _
  have hb : Blk w1 q0 24 #[.int .i64 2, .int .i64 N, .int .i64 O, .int .i64 T, .slice A l.length c] := by rw [hw1, hq0]; exact Blk.new _ _ _
  have HW := Lib.hid hw1
  have HQ := Lib.hid hq0
  have HF := Lib.hid (And.intro hf (hs.up hf))
  have b0 := hb.cell 0 rfl
  have b1 := hb.cell 1 rfl
  have b2 := hb.cell 2 rfl
  have b3 := hb.cell 3 rfl
  have b4 := hb.cell 4 rfl
  obtain ⟨K, hp2, hK1, hK2, hcut⟩ := cut_eq' N X (by omega) hX
  have hY := cut_lt N X (by omega)
  obtain ⟨Y, hYe⟩ : ∃ Y, Y = X % 2 ^ N := ⟨_, rfl⟩
  rw [← hYe] at hcut hY
  have hc12 : cnt 12 Y.testBit = cnt N X.testBit := by rw [hYe]; exact cnt_cut _ _ (by omega)
  have hcn : cnt N Y.testBit = cnt N X.testBit := by rw [hYe]; exact cnt_congr fun i hi => cut_bit _ X i hi
  have hq := (show quo ⟨2, N, O, T, l⟩ true (X % 2 ^ N).testBit = anyN T (fun r => allN N fun i => !lineP T r true i || (X % 2 ^ N).testBit i) by unfold quo; rw [if_neg (by simp), if_pos rfl]; rfl)
  rw [hYe.symm] at hq
  have HY := Lib.hid (And.intro hq (And.intro hc12 hcn))
  rw [← hYe]
  simp only [Qu.v] at HC
  clear hf hs hw1 hq0 hYe hc12 hq hcn
  go_enter Try.func75, Try.ntmps75
  go_upto_region 1 with (fail)
  rw [← HW.out, ← HQ.out]
  clear HW HQ
  go_wp2_with fail
  refine (HC.out w1 HF.out.2 (by omega)).mono ?_
  rintro e w2 ⟨rfl, hf2⟩
  rw [HE.out]
  have hb2 := hb.fr hf2 (fun h => h)
  have hff := HF.out.1.tr hf2
  have hs2 := HF.out.2.up hf2
  clear b0 b1 b2 b3 b4 hf2 hb HF HC
  have b0 := hb2.cell 0 rfl
  have b1 := hb2.cell 1 rfl
  have b2 := hb2.cell 2 rfl
  have b3 := hb2.cell 3 rfl
  have b4 := hb2.cell 4 rfl
  go_wp2_with fail
  rw [hp2]
  go_loopg [32] T (fun g x32 wr => ∃ (j : Nat), j + g = T ∧ x32 = .int .i64 j ∧ anyN j (fun r => allN N fun i => !lineP T r true i || Y.testBit i) = false ∧ Fr (fun _ => False) w2 wr)
  case atStart => exact ⟨0, by omega, rfl, rfl, Fr.refl _ _⟩
  case round =>
    obtain ⟨j, hj, rfl, hno, hfr⟩ := hrel
    have HJ := Lib.hid (And.intro hj hno)
    have hj' : j ≤ T := by omega
    clear hj hno b0 b1 b2 b3 b4
    have hbr := hb2.fr hfr (fun h => h)
    have hsr := hs2.up hfr
    have b0 := hbr.cell 0 rfl
    have b1 := hbr.cell 1 rfl
    have b2 := hbr.cell 2 rfl
    have b3 := hbr.cell 3 rfl
    have b4 := hbr.cell 4 rfl
    by_cases hlt : j < T
    · have hml := mask_lt12 (n := N) n12 (lineP T j true)
      have hae := and_eq Y _ hY hml
      have haa := and_all N Y (lineP T j true)
      obtain ⟨M, hM⟩ : ∃ M, M = mask N (lineP T j true) := ⟨_, rfl⟩
      rw [← hM] at hml hae haa
      obtain ⟨Z, hZ⟩ : ∃ Z, Z = Y &&& M := ⟨_, rfl⟩
      rw [← hZ] at hae haa
      rw [← eq_nat] at haa
      have HM := Lib.hid hM
      have HA := Lib.hid haa
      clear hM hZ haa
      go_wp2_with fail
      refine (line_any 2 O N T j l true _ _ hsr n12 (by omega) (by omega) (by omega)).mono ?_
      rintro e w4 ⟨rfl, hf4⟩
      rw [← HM.out]
      have hfr4 := hfr.tr hf4
      clear b0 b1 b2 b3 b4 hf4
      cases hz : ((Z : Int) == (M : Int)) with
      | true =>
        go_wp2_with fail
        go_ret
        refine ⟨?_, hff.tr hfr4⟩
        rw [HY.out.1]
        have : anyN T (fun r => allN N fun i => !lineP T r true i || Y.testBit i) = true := anyN_iff.2 ⟨j, hlt, by rw [← HA.out, hz]⟩
        rw [this]
        rfl
      | false =>
        have HZ := Lib.hid hz
        go_wp2_with fail
        go_roundg (T - (j + 1))
        case measure => have := HJ.out; omega
        case rel => exact ⟨j + 1, by have := HJ.out; omega, by go_num, by simp only [anyN]; rw [HJ.out.2, ← HA.out, HZ.out]; rfl, hfr4⟩
    · obtain rfl : j = T := by omega
      go_wp2_with fail
      go_ret
      refine ⟨?_, hff.tr hfr⟩
      rw [HY.out.1, HJ.out.2]
      rfl

set_option maxRecDepth 100000 in
set_option maxHeartbeats 4000000 in
theorem second_three (o t : Int) (l : List Int) (n1 : 1 ≤ l.length) (n12 : l.length ≤ 12) (b : l.any badS = false) (s : Value) (X : Nat) (hX : X < 4294967296) (w : World) (hs : Ints w s l) (hl : l.length ≤ 1000) :
    Calls Try.prog 75 #[.agg #[.int .i64 3, .int .i64 l.length, .int .i64 o, .int .i64 t, s], .int .u32 X] w fun e w' => e = .returned (.bool (quo ⟨3, l.length, o, t, l⟩ true (X % 2 ^ l.length).testBit)) ∧ Fr (fun _ => False) w w' := by
  have HC := Lib.hid (right_any ⟨3, l.length, o, t, l⟩ s)
  have HE := Lib.hid (Ok.three o t l n1 n12 b).right
  have hs0 := hs
  obtain ⟨A, c, rfl, -⟩ := hs0
  obtain ⟨w1, hw1⟩ : ∃ w1, w1 = w.alloc (.cells #[.int .i64 3, .int .i64 l.length, .int .i64 o, .int .i64 t, .slice A l.length c] 24) := ⟨_, rfl⟩
  obtain ⟨q0, hq0⟩ : ∃ q0, q0 = w.heap.size := ⟨_, rfl⟩
  have hf : Fr (fun _ => False) w w1 := by rw [hw1]; exact (Fr.refl _ w).alloc _
  have hb : Blk w1 q0 24 #[.int .i64 3, .int .i64 l.length, .int .i64 o, .int .i64 t, .slice A l.length c] := by rw [hw1, hq0]; exact Blk.new _ _ _
  have HW := Lib.hid hw1
  have HQ := Lib.hid hq0
  have HF := Lib.hid (And.intro hf (hs.up hf))
  have b0 := hb.cell 0 rfl
  have b1 := hb.cell 1 rfl
  have b2 := hb.cell 2 rfl
  have b3 := hb.cell 3 rfl
  have b4 := hb.cell 4 rfl
  obtain ⟨K, hp2, hK1, hK2, hcut⟩ := cut_eq' l.length X (by omega) hX
  have hY := cut_lt l.length X (by omega)
  obtain ⟨Y, hYe⟩ : ∃ Y, Y = X % 2 ^ l.length := ⟨_, rfl⟩
  rw [← hYe] at hcut hY
  have hc12 : cnt 12 Y.testBit = cnt l.length X.testBit := by rw [hYe]; exact cnt_cut _ _ (by omega)
  have hcn : cnt l.length Y.testBit = cnt l.length X.testBit := by rw [hYe]; exact cnt_congr fun i hi => cut_bit _ X i hi
  have hq := (show quo ⟨3, l.length, o, t, l⟩ true (X % 2 ^ l.length).testBit = anyN l.length (fun j => allN l.length fun i => !decide (l[i]? = l[j]?) || (X % 2 ^ l.length).testBit i) by unfold quo; rw [if_neg (by simp), if_neg (by simp)]; rfl)
  rw [hYe.symm] at hq
  have HY := Lib.hid (And.intro hq (And.intro hc12 hcn))
  rw [← hYe]
  simp only [Qu.v] at HC
  clear hf hs hw1 hq0 hYe hc12 hq hcn
  go_enter Try.func75, Try.ntmps75
  go_upto_region 1 with (fail)
  rw [← HW.out, ← HQ.out]
  clear HW HQ
  go_wp2_with fail
  refine (HC.out w1 HF.out.2 (by omega)).mono ?_
  rintro e w2 ⟨rfl, hf2⟩
  rw [HE.out]
  have hb2 := hb.fr hf2 (fun h => h)
  have hff := HF.out.1.tr hf2
  have hs2 := HF.out.2.up hf2
  clear b0 b1 b2 b3 b4 hf2 hb HF HC
  have b0 := hb2.cell 0 rfl
  have b1 := hb2.cell 1 rfl
  have b2 := hb2.cell 2 rfl
  have b3 := hb2.cell 3 rfl
  have b4 := hb2.cell 4 rfl
  go_wp2_with fail
  rw [hp2]
  go_loopg [47] l.length (fun g x47 wr => ∃ (j : Nat), j + g = l.length ∧ x47 = .int .i64 j ∧ anyN j (fun j => allN l.length fun i => !decide (l[i]? = l[j]?) || Y.testBit i) = false ∧ Fr (fun _ => False) w2 wr)
  case atStart => exact ⟨0, by omega, rfl, rfl, Fr.refl _ _⟩
  case round =>
    obtain ⟨j, hj, rfl, hno, hfr⟩ := hrel
    have HJ := Lib.hid (And.intro hj hno)
    have hj' : j ≤ l.length := by omega
    clear hj hno b0 b1 b2 b3 b4
    have hbr := hb2.fr hfr (fun h => h)
    have hsr := hs2.up hfr
    have b0 := hbr.cell 0 rfl
    have b1 := hbr.cell 1 rfl
    have b2 := hbr.cell 2 rfl
    have b3 := hbr.cell 3 rfl
    have b4 := hbr.cell 4 rfl
    by_cases hlt : j < l.length
    · obtain ⟨y, hy⟩ : ∃ y, l[j]? = some y := ⟨_, List.getElem?_eq_getElem hlt⟩
      have hsr0 := hsr
      obtain ⟨A', c', hA, h2⟩ := hsr0
      obtain ⟨bb, off, rfl, h3⟩ := h2 (by rintro rfl; simp at hlt)
      injection hA with hA1 _ hA3
      subst hA1 hA3
      have g0 := h3 j y hy
      clear h2 h3
      have hml := mask_lt12 (n := l.length) n12 (siteP l y)
      have hae := and_eq Y _ hY hml
      have haa := and_all l.length Y (siteP l y)
      obtain ⟨M, hM⟩ : ∃ M, M = mask l.length (siteP l y) := ⟨_, rfl⟩
      rw [← hM] at hml hae haa
      obtain ⟨Z, hZ⟩ : ∃ Z, Z = Y &&& M := ⟨_, rfl⟩
      rw [← hZ] at hae haa
      rw [← eq_nat] at haa
      unfold siteP at haa
      rw [← hy] at haa
      have HM := Lib.hid hM
      have HA := Lib.hid haa
      clear hM hZ haa hy
      go_wp2_with fail
      refine (site_any 3 l.length o t y l _ _ hsr n12).mono ?_
      rintro e w4 ⟨rfl, hf4⟩
      rw [← HM.out]
      have hfr4 := hfr.tr hf4
      clear b0 b1 b2 b3 b4 hf4 g0
      cases hz : ((Z : Int) == ((M : Nat) : Int)) with
      | true =>
        have HZ := Lib.hid hz
        go_wp2_with fail
        go_ret
        refine ⟨?_, hff.tr hfr4⟩
        rw [HY.out.1]
        have : anyN l.length (fun j => allN l.length fun i => !decide (l[i]? = l[j]?) || Y.testBit i) = true := anyN_iff.2 ⟨j, hlt, by rw [← HA.out, HZ.out]⟩
        rw [this]
        rfl
      | false =>
        have HZ := Lib.hid hz
        go_wp2_with fail
        go_roundg (l.length - (j + 1))
        case measure => have := HJ.out; omega
        case rel => exact ⟨j + 1, by have := HJ.out; omega, by go_num, by simp only [anyN]; rw [HJ.out.2, ← HA.out, HZ.out]; rfl, hfr4⟩
    · obtain rfl : j = l.length := by omega
      go_wp2_with fail
      go_ret
      refine ⟨?_, hff.tr hfr⟩
      rw [HY.out.1, HJ.out.2]
      rfl

theorem second_any (q : Qu) (s : Value) (X : Nat) (hX : X < 4294967296) (w : World) (hs : Ints w s q.s) (hl : q.s.length ≤ 1000) :
    Calls Try.prog 75 #[q.v s, .int .u32 X] w fun e w' => e = .returned (.bool (isQ q true X.testBit)) ∧ Fr (fun _ => False) w w' := by
  by_cases h : rightE q = 0
  · have ho := ok_of h
    have e : isQ q true X.testBit = quo q true (X % 2 ^ q.n.toNat).testBit := by
      unfold isQ okQ
      rw [h]
      show (true && _) = _
      rw [Bool.true_and]
      exact quo_congr fun i hi => (cut_bit _ X i hi).symm
    rw [e]
    cases ho with
    | one N O T l n1 n12 o1 oN t1 tN m => exact second_one N O T l n1 n12 o1 oN t1 tN m s X hX w hs hl
    | two N O T l n1 n12 o1 oN t1 tN m => exact second_two N O T l n1 n12 o1 oN t1 tN m s X hX w hs hl
    | three o t l n1 n12 b => exact second_three o t l n1 n12 b s X hX w hs hl
  · have e : isQ q true X.testBit = false := by
      unfold isQ okQ
      rw [show (rightE q == 0) = false by simp [h]]
      rfl
    rw [e]
    exact second_bad q s X w hs hl h

end Go.Proofs.Ytkpfgoalohbfeaa

