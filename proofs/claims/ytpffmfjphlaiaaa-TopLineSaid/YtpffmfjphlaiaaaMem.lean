/- Plain lemmas on memory, over any program: frames by sets of blocks, byte slices that read as lists, append from any source, rows. -/
import Derived.WalkKit
import Derived.WalkSpells
import Derived.WalkLawsBesides
import Derived.BigQuiet
import Derived.Deep.QuietTactic
import Derived.Deep.RegionHeld3
import Derived.Deep.LoopGhost
import Derived.Deep.DeepCutAuto
import Derived.Deep.CutBlock
import Derived.Maps.AppendAt
import Derived.Laws.BytesArg
import Derived.Lib.Hide
namespace Go.Proofs.Ytpffmfjphlaiaaa
open Go.RowKit

/-- Only the blocks of X may have turned; new ones may have come. -/
structure Fr (X : Nat → Prop) (w w' : World) : Prop where
  os : w'.os = w.os
  tape : w'.tape = w.tape
  output : w'.output = w.output
  size : w.heap.size ≤ w'.heap.size
  block : ∀ k, k < w.heap.size → ¬ X k → w'.heap[k]? = w.heap[k]?

section
variable {X Y Z : Nat → Prop} {w w1 w2 : World}
theorem Fr.refl (X : Nat → Prop) (w : World) : Fr X w w := ⟨rfl, rfl, rfl, Nat.le_refl _, fun _ _ _ => rfl⟩
theorem Fr.trans (h : Fr X w w1) (k : Fr Y w1 w2) (hz : ∀ b, b < w.heap.size → X b ∨ Y b → Z b) : Fr Z w w2 :=
  ⟨k.os.trans h.os, k.tape.trans h.tape, k.output.trans h.output, Nat.le_trans h.size k.size, fun b hb hn =>
    (k.block b (Nat.lt_of_lt_of_le hb h.size) (fun hy => hn (hz b hb (.inr hy)))).trans (h.block b hb (fun hx => hn (hz b hb (.inl hx))))⟩
theorem Fr.mono (h : Fr X w w1) (hz : ∀ b, b < w.heap.size → X b → Z b) : Fr Z w w1 := ⟨h.os, h.tape, h.output, h.size, fun b hb hn => h.block b hb fun hx => hn (hz b hb hx)⟩
theorem Fr.tr (h : Fr X w w1) (k : Fr X w1 w2) : Fr X w w2 := h.trans k fun _ _ h => h.elim id id
theorem Fr.drewN (h : Fr X w w1) (n : Nat) : Fr X w (w1.drewN n) := ⟨h.os, h.tape, h.output, h.size, h.block⟩
theorem Fr.drew (h : Fr X w w1) : Fr X w w1.drew := ⟨h.os, h.tape, h.output, h.size, h.block⟩
theorem Fr.of_drew (h : Fr X w.drew w1) : Fr X w w1 := ⟨h.os, h.tape, h.output, h.size, h.block⟩
theorem Fr.of_drewN {n : Nat} (h : Fr X (w.drewN n) w1) : Fr X w w1 := ⟨h.os, h.tape, h.output, h.size, h.block⟩
theorem Fr.alloc (h : Fr X w w1) (o : Obj) : Fr X w (w1.alloc o) :=
  ⟨h.os, h.tape, h.output, Nat.le_trans h.size (by simp), fun b hb hn => (Below.heap_alloc _ _ _ (Nat.lt_of_lt_of_le hb h.size)).trans (h.block b hb hn)⟩
theorem Fr.setCell (h : Fr X w w1) {p : Addr} (hp : p.block < w.heap.size → X p.block) (u : Value) : Fr X w (w1.setCell p u) :=
  ⟨h.os, h.tape, h.output, by simpa using h.size, fun b hb hn => (Below.heap_setCell _ _ _ _ (by rintro rfl; exact hn (hp hb))).trans (h.block b hb hn)⟩
theorem Fr.setRow (h : Fr X w w1) {g : Nat} (hp : g < w.heap.size → X g) (cs : Array Value) : Fr X w (w1.setRow g cs) :=
  ⟨h.os, h.tape, h.output, by simpa [World.setRow] using h.size, fun b hb hn => (setRow_other _ _ _ _ (by rintro rfl; exact hn (hp hb))).trans (h.block b hb hn)⟩
theorem Fr.grown (h : Fr X w w1) {row : Option Nat} (hg : w1.grownBy w2 row) (hr : ∀ k, row = some k → k < w.heap.size → X k) : Fr X w w2 :=
  ⟨hg.os.trans h.os, hg.tape.trans h.tape, hg.output.trans h.output, Nat.le_trans h.size hg.size, fun b hb hn =>
    (hg.block b (Nat.lt_of_lt_of_le hb h.size) (fun e => hn (hr b e.symm hb))).trans (h.block b hb hn)⟩
theorem Fr.below {B : Nat} (h : Fr (fun k => B ≤ k) w w1) (hB : B ≤ w.heap.size) : Below B w w1 :=
  ⟨h.os, h.tape, h.output, h.size, fun k hk => h.block k (by omega) (by omega)⟩
theorem Fr.of_below {B : Nat} (h : Below B w w1) : Fr (fun k => B ≤ k) w w1 := ⟨h.os, h.tape, h.output, h.size, fun k _ hn => h.block k (by omega)⟩
theorem Fr.cell (h : Fr X w w1) {p : Addr} {u : Value} (hc : w.cell? p = some u) (hx : ¬ X p.block) : w1.cell? p = some u :=
  (World.cell?_of_block (h.block p.block (World.block_lt_of_cell? w p hc) hx)).trans hc
/-- Nothing that was there has turned. -/
theorem Fr.none_up (h : Fr (fun _ => False) w w1) : Fr X w w1 := h.mono fun _ _ h => h.elim
theorem Fr.set1 (w : World) (b i : Nat) (u : Value) : Fr (fun k => k = b) w (w.setCell ⟨b, i, none⟩ u) := Fr.setCell (X := fun k => k = b) (Fr.refl _ w) (p := ⟨b, i, none⟩) (fun _ => rfl) u
end

theorem al_cell {w : World} {p : Addr} {u : Value} (h : w.cell? p = some u) (o : Obj) : (w.alloc o).cell? p = some u := (World.cell?_alloc_lt w o p (World.block_lt_of_cell? w p h)).trans h

/-! ### A block that is known whole -/
def Blk (w : World) (g : Nat) (t : TypeId) (cs : Array Value) : Prop := w.heap[g]? = some (.cells cs t (0, 0))
section
variable {w w' : World} {g : Nat} {t : TypeId} {cs : Array Value} {X : Nat → Prop}
theorem Blk.lt (h : Blk w g t cs) : g < w.heap.size := (Array.getElem?_eq_some_iff.1 h).1
theorem Blk.cell (h : Blk w g t cs) (i : Nat) {u : Value} (hu : cs[i]? = some u) : w.cell? ⟨g, i, none⟩ = some u := by unfold Blk at h; simp [World.cell?, h, hu]
theorem Blk.frozen (h : Blk w g t cs) (i : Nat) : w.frozen? ⟨g, i, none⟩ = false := by unfold Blk at h; simp [World.frozen?, h]
theorem Blk.new (w : World) (t : TypeId) (cs : Array Value) : Blk (w.alloc (.cells cs t)) w.heap.size t cs := by
  show (w.heap.push _)[w.heap.size]? = _; simp
theorem Blk.set_ (h : Blk w g t cs) (i : Nat) (u : Value) : Blk (w.setCell ⟨g, i, none⟩ u) g t (cs.setIfInBounds i u) := by
  unfold Blk at h ⊢; simp [World.setCell, Array.getElem?_modify, h]
theorem Blk.far (h : Blk w g t cs) {p : Addr} (hp : g ≠ p.block) (u : Value) : Blk (w.setCell p u) g t cs := (Below.heap_setCell w p u g hp).trans h
theorem Blk.alloc (h : Blk w g t cs) (o : Obj) : Blk (w.alloc o) g t cs := (Below.heap_alloc w o g h.lt).trans h
theorem Blk.drew (h : Blk w g t cs) : Blk w.drew g t cs := h
theorem Blk.drewN (h : Blk w g t cs) (n : Nat) : Blk (w.drewN n) g t cs := h
theorem Blk.fr (h : Blk w g t cs) (hf : Fr X w w') (hx : ¬ X g) : Blk w' g t cs := (hf.block g h.lt hx).trans h
theorem Blk.ne_ {g' : Nat} {t' : TypeId} {cs' : Array Value} (h : Blk w g t cs) (h' : Blk w g' t' cs') (hne : t ≠ t') : g ≠ g' := by
  rintro rfl
  unfold Blk at h h'
  rw [h] at h'
  injection h' with h'
  injection h' with _ ht
  exact hne ht
end

/-! ### Rows that a call owns -/
section
variable {w w' : World} {base : Nat} {e : TypeId} {size : Nat} {v : Value} {n : Nat} {xs : List Value} {X : Nat → Prop}
theorem own_fr (h : w.ownsRow base e size v n xs) (hf : Fr X w w') (hx : ∀ k, v.ownBlock = some k → ¬ X k) : w'.ownsRow base e size v n xs := by
  refine ⟨h.1, ?_⟩
  rcases h.2 with hn | ⟨g, cap, cur, rfl, hb, hg, r⟩
  · exact .inl hn
  · exact .inr ⟨g, cap, cur, rfl, hb, (hf.block g (Array.getElem?_eq_some_iff.1 hg).1 (hx g rfl)).trans hg, r⟩
theorem own_base (h : w.ownsRow base e size v n xs) : w.ownsRow 0 e size v n xs := by
  refine ⟨h.1, ?_⟩
  rcases h.2 with hn | ⟨g, cap, cur, rfl, hb, r⟩
  · exact .inl hn
  · exact .inr ⟨g, cap, cur, rfl, Nat.zero_le _, r⟩
theorem own_up (h : w.ownsRow 0 e size v n xs) (hb : ∀ k, v.ownBlock = some k → base ≤ k) : w.ownsRow base e size v n xs := by
  refine ⟨h.1, ?_⟩
  rcases h.2 with hn | ⟨g, cap, cur, rfl, _, r⟩
  · exact .inl hn
  · exact .inr ⟨g, cap, cur, rfl, hb g rfl, r⟩
theorem own_lt (h : w.ownsRow base e size v n xs) {k : Nat} (hk : v.ownBlock = some k) : k < w.heap.size := (h.lt k hk).2
theorem own_blk_ne {g : Nat} {t : TypeId} {cs : Array Value} (h : w.ownsRow base e size v n xs) (hg : Blk w g t cs) (hne : e ≠ t) : ∀ k, v.ownBlock = some k → k ≠ g := by
  rcases h.2 with ⟨rfl, _⟩ | ⟨g', cap, cur, rfl, _, hh, _⟩
  · simp [Value.ownBlock]
  · intro k hk
    have : g' = k := by simpa [Value.ownBlock] using hk
    subst this
    exact Blk.ne_ (t := e) hh hg hne
theorem own_own_ne {base' : Nat} {e' : TypeId} {size' : Nat} {v' : Value} {n' : Nat} {xs' : List Value} (h : w.ownsRow base e size v n xs) (h' : w.ownsRow base' e' size' v' n' xs') (hne : e ≠ e') :
    ∀ k k', v.ownBlock = some k → v'.ownBlock = some k' → k ≠ k' := by
  intro k k' hk hk'
  rcases h'.2 with ⟨rfl, _⟩ | ⟨g', cap, cur, rfl, _, hh, _⟩
  · simp [Value.ownBlock] at hk'
  · have : g' = k' := by simpa [Value.ownBlock] using hk'
    subst this
    exact own_blk_ne h (show Blk w g' e' cur from hh) hne k hk
/-- The form of an owned value that owns something. -/
theorem own_form (h : w.ownsRow base e size v n xs) : (v = .slice none 0 0 ∧ n = 0 ∧ xs = []) ∨
    ∃ g cap cur, v = .slice (some ⟨g, 0, none⟩) n cap ∧ base ≤ g ∧ Blk w g e cur ∧ n ≤ cap ∧ cap ≤ maxLen ∧ cur.size = cap * size ∧ cur.toList.take (n * size) = xs := by
  rcases h.2 with ⟨rfl, rfl⟩ | hh
  · exact .inl ⟨rfl, rfl, List.eq_nil_of_length_eq_zero (by simpa using h.1)⟩
  · exact .inr hh
theorem own_cell {g cap : Nat} (h : w.ownsRow base e size (.slice (some ⟨g, 0, none⟩) n cap) n xs) (j : Nat) {u : Value} (hu : xs[j]? = some u) : w.cell? ⟨g, j, none⟩ = some u := by
  have hj : j < n * size := by
    have := (List.getElem?_eq_some_iff.1 hu).1
    rw [h.1] at this; exact this
  rw [h.cellAt j hj, hu]
theorem own_mk {g cap : Nat} {cur : Array Value} (hg : Blk w g e cur) (hn : n ≤ cap) (hc : cap ≤ maxLen) (hs : cur.size = cap * size) (hx : cur.toList.take (n * size) = xs) :
    w.ownsRow 0 e size (.slice (some ⟨g, 0, none⟩) n cap) n xs :=
  ⟨by rw [← hx, List.length_take, Array.length_toList, hs]; exact Nat.min_eq_left (Nat.mul_le_mul_right _ hn), .inr ⟨g, cap, cur, rfl, Nat.zero_le _, hg, hn, hc, hs, hx⟩⟩
end

/-! ### Bytes -/
def u8s (bs : List UInt8) : List Value := bs.map fun b => .int .u8 (b.toNat : Int)
@[simp] theorem u8s_length (bs : List UInt8) : (u8s bs).length = bs.length := by simp [u8s]
theorem u8s_get (bs : List UInt8) (i : Nat) {u : UInt8} (h : bs[i]? = some u) : (u8s bs)[i]? = some (.int .u8 (u.toNat : Int)) := by simp [u8s, h]
theorem u8s_one (bs : List UInt8) : ∀ u ∈ u8s bs, u.oneCell' = true := by
  intro u hu
  simp only [u8s, List.mem_map] at hu
  obtain ⟨b, _, rfl⟩ := hu
  rfl
theorem u8s_append (a b : List UInt8) : u8s (a ++ b) = u8s a ++ u8s b := by simp [u8s]

/-- The slice value v reads as the bytes bs. -/
def Byt (w : World) (v : Value) (bs : List UInt8) : Prop :=
  ∃ A c, v = .slice A bs.length c ∧ (A = none → c = 0) ∧ (bs ≠ [] → ∃ b off, A = some ⟨b, off, none⟩ ∧ ∀ i u, bs[i]? = some u → w.cell? ⟨b, off + i, none⟩ = some (.int .u8 (u.toNat : Int)))

section
variable {w w' : World} {v : Value} {bs : List UInt8} {X : Nat → Prop}
theorem Byt.fr (h : Byt w v bs) (hf : Fr X w w') (hx : ∀ k, v.ownBlock = some k → ¬ X k) : Byt w' v bs := by
  obtain ⟨A, c, rfl, h0, h1⟩ := h
  refine ⟨A, c, rfl, h0, fun hn => ?_⟩
  obtain ⟨b, off, rfl, h2⟩ := h1 hn
  exact ⟨b, off, rfl, fun i u hu => hf.cell (h2 i u hu) (hx b rfl)⟩
theorem Byt.drew (h : Byt w v bs) : Byt w.drew v bs := h
theorem Byt.drewN (h : Byt w v bs) (n : Nat) : Byt (w.drewN n) v bs := h
theorem Byt.alloc (h : Byt w v bs) (o : Obj) : Byt (w.alloc o) v bs := h.fr (X := fun _ => False) ((Fr.refl _ w).alloc o) (fun _ _ h => h)
theorem Byt.of_own {base : Nat} {e : TypeId} {n : Nat} (h : w.ownsRow base e 1 v n (u8s bs)) : Byt w v bs := by
  have hn : bs.length = n := by have := h.1; simpa using this
  rcases own_form h with ⟨rfl, rfl, hx⟩ | ⟨g, cap, cur, rfl, _, hg, _, _, _, hx⟩
  · have : bs = [] := List.eq_nil_of_length_eq_zero hn
    subst this
    exact ⟨none, 0, rfl, fun _ => rfl, fun h => absurd rfl h⟩
  · subst hn
    refine ⟨some ⟨g, 0, none⟩, cap, rfl, by simp, fun _ => ⟨g, 0, rfl, fun i u hu => ?_⟩⟩
    rw [Nat.zero_add]
    exact own_cell h i (u8s_get bs i hu)
theorem Byt.lt (h : Byt w v bs) (hn : bs ≠ []) : ∃ k, v.ownBlock = some k ∧ k < w.heap.size := by
  obtain ⟨A, c, rfl, h0, h1⟩ := h
  obtain ⟨b, off, rfl, h2⟩ := h1 hn
  obtain ⟨u, hu⟩ : ∃ u, bs[0]? = some u := by cases bs with | nil => exact absurd rfl hn | cons u _ => exact ⟨u, rfl⟩
  exact ⟨b, rfl, World.block_lt_of_cell? w _ (h2 0 u hu)⟩
/-- It reads so too where what may have turned lies above all that was there. -/
theorem Byt.keep {B : Nat} (h : Byt w v bs) (hB : w.heap.size ≤ B) (hf : Fr (fun k => B ≤ k) w w') : Byt w' v bs := by
  by_cases hn : bs = []
  · subst hn
    obtain ⟨A, c, rfl, h0, h1⟩ := h
    exact ⟨A, c, rfl, h0, fun h => absurd rfl h⟩
  · obtain ⟨k, hk, hlt⟩ := h.lt hn
    refine h.fr hf fun k' hk' => ?_
    rw [hk] at hk'
    injection hk' with hk'
    omega
/-- A byte slice whose block lies below B reads as it did. -/
def Low (B : Nat) (v : Value) : Prop := ∀ k, v.ownBlock = some k → k < B
theorem Byt.low {B : Nat} (h : Byt w v bs) (hB : Low B v) (hf : Fr (fun k => B ≤ k) w w') : Byt w' v bs :=
  h.fr hf fun k hk => by have := hB k hk; omega
end

/-! ### One built-in call as a step, by what it gives -/
section
variable {P : Program} {ops : Array Oper} {rest : List Oper} {o : Oper} {a : Act} {w : World} {K : Act → World → Prop} {Q : Exit → Act → World → Prop}
theorem wp_bi (b : Builtin) (args : Array Operand) (tys : Array TypeId) (vs : Array Value) (ho : o.op = .call { callee := .builtin b, args := args, argTypes := tys }) (hv : args.map a.eval = vs)
    (R : Value → World → Prop) (hrun : ∀ consts, ∃ v w', (builtin b tys o.type consts vs).run P w = .ok (.value v) w' ∧ R v w') (h : ∀ v w', R v w' → K (a.put o.dst v) w') : o.wp P a w K Q := by
  have key : ∀ cs, Oper.upon P o a K Q ((builtin b tys o.type cs vs).run P w) := fun cs => by
    obtain ⟨v, w', hr, hR⟩ := hrun cs
    rw [hr]
    exact h v w' hR
  unfold Oper.wp execOp
  simp only [ho, resolve, invoke, Sem.run_bind, Sem.run_pure, Result.andThen_ok, hv]
  exact key _
theorem wp_bi2 (b : Builtin) (s x : Operand) (tys : Array TypeId) (v1 v2 : Value) (ho : o.op = .call { callee := .builtin b, args := #[s, x], argTypes := tys }) (h1 : a.eval s = v1) (h2 : a.eval x = v2)
    (R : Value → World → Prop) (hrun : ∀ consts, ∃ v w', (builtin b tys o.type consts #[v1, v2]).run P w = .ok (.value v) w' ∧ R v w') (h : ∀ v w', R v w' → K (a.put o.dst v) w') : o.wp P a w K Q :=
  wp_bi b #[s, x] tys #[v1, v2] ho (by simp [h1, h2]) R hrun h
theorem step_bi1 {E : Prop} (hgd : o.guard = none) (b : Builtin) (x : Operand) (tys : Array TypeId) (v1 : Value) (ho : o.op = .call { callee := .builtin b, args := #[x], argTypes := tys }) (h1 : a.eval x = v1)
    (R : Value → World → Prop) (hrun : ∀ consts, ∃ v w', (builtin b tys o.type consts #[v1]).run P w = .ok (.value v) w' ∧ R v w') (h : ∀ v w', R v w' → K (a.put o.dst v) w') :
    if Region.wanted o (yielded ops a.tmps) = true then Oper.wp P o a w K Q else E := by
  have hw : Region.wanted o (yielded ops a.tmps) = true := by simp [Region.wanted, hgd]
  rw [if_pos hw]
  exact wp_bi b #[x] tys #[v1] ho (by simp [h1]) R hrun h
theorem wpList_bi2 (hgd : o.guard = none) (b : Builtin) (s x : Operand) (tys : Array TypeId) (v1 v2 : Value) (ho : o.op = .call { callee := .builtin b, args := #[s, x], argTypes := tys }) (h1 : a.eval s = v1) (h2 : a.eval x = v2)
    (R : Value → World → Prop) (hrun : ∀ consts, ∃ v w', (builtin b tys o.type consts #[v1, v2]).run P w = .ok (.value v) w' ∧ R v w') (h : ∀ v w', R v w' → wpList P ops Q rest (a.put o.dst v) w') : wpList P ops Q (o :: rest) a w :=
  wpList_plain hgd fun _ hK => wp_bi2 b s x tys v1 v2 ho h1 h2 R hrun fun v w' hR => hK _ _ (h v w' hR)
theorem step_bi2 {E : Prop} (hgd : o.guard = none) (b : Builtin) (s x : Operand) (tys : Array TypeId) (v1 v2 : Value) (ho : o.op = .call { callee := .builtin b, args := #[s, x], argTypes := tys }) (h1 : a.eval s = v1) (h2 : a.eval x = v2)
    (R : Value → World → Prop) (hrun : ∀ consts, ∃ v w', (builtin b tys o.type consts #[v1, v2]).run P w = .ok (.value v) w' ∧ R v w') (h : ∀ v w', R v w' → K (a.put o.dst v) w') :
    if Region.wanted o (yielded ops a.tmps) = true then Oper.wp P o a w K Q else E := by
  have hw : Region.wanted o (yielded ops a.tmps) = true := by simp [Region.wanted, hgd]
  rw [if_pos hw]
  exact wp_bi2 b s x tys v1 v2 ho h1 h2 R hrun h
end

section
variable {P : Program} {ops : Array Oper} {rest : List Oper} {o : Oper} {a : Act} {w : World} {Q : Exit → Act → World → Prop}
theorem wpList_build (hgd : o.guard = none) (t : TypeId) (parts : List (Nat × Operand)) (ho : o.op = .build t parts.toArray) (ps : List (Nat × Value)) (v : Value) (hps : parts.map (fun (i, x) => (i, a.eval x)) = ps)
    (hrun : (Instr.build t ps.toArray).run P w = .ok v w) (h : wpList P ops Q rest (a.put o.dst v) w) : wpList P ops Q (o :: rest) a w :=
  wpList_plain hgd fun _ hK => by
    unfold Oper.wp execOp
    simp only [ho, List.map_toArray, hps, Sem.run_bind, hrun, Result.andThen_ok, Sem.run_pure]
    exact hK _ _ h
end

/-! ### append: of cells that lie somewhere, or of nothing -/
/-- What an append leaves: the row of the new value, where it lies, what may have turned. -/
def Appended (base : Nat) (e : TypeId) (size : Nat) (w : World) (v : Value) (n m : Nat) (xs news : List Value) (v' : Value) (w' : World) : Prop :=
  w'.ownsRow base e size v' (n + m) (xs ++ news) ∧ w.grownBy w' v.ownBlock ∧ (v'.ownBlock = v.ownBlock ∨ v'.ownBlock = some w.heap.size)
section
variable {P : Program} {w : World} {base : Nat} {t ty e : TypeId} {i : TypeInfo} {z : Value} {size bytes : Nat} {v : Value} {n : Nat} {xs : List Value}
theorem ap_cells (ht : P.underlying t = some (.slice e)) (hi : P.info? e = some i) (hz : i.zero = some z) (hsize : i.size = size) (hby : i.bytes = bytes) (hzs : z.cells.size = size) (hsz : 0 < size)
    (hown : w.ownsRow base e size v n xs) (a : Addr) (m c : Nat) (news : List Value) (hl : news.length = m * size) (hnews : ∀ j u, news[j]? = some u → w.cell? (a.add j) = some u) (h1 : ∀ u ∈ news, u.oneCell' = true)
    (h63 : n + m ≤ maxLen) (hbytes : (n + m) * bytes ≤ 140737488355328) (hbase : base ≤ w.heap.size) (consts : Array Bool) :
    ∃ v' w', (builtin .append #[t, t] ty consts #[v, .slice (some a) m c]).run P w = .ok (.value v') w' ∧ Appended base e size w v n m xs news v' w' := by
  obtain ⟨v', w', hr, h2, h3, _, h5⟩ := run_append_own_at (P := P) w base t ty e i z size bytes ht hi hz hsize hby hzs hsz v n xs hown a m c news hl hnews h1 h63 hbytes hbase
  exact ⟨v', w', by simp only [builtin, Sem.run_bind, hr, Result.andThen_ok, Sem.run_pure], h2, h3, h5⟩
theorem add_none (b off j : Nat) : (⟨b, off, none⟩ : Addr).add j = ⟨b, off + j, none⟩ := by unfold Addr.add; split <;> simp_all
theorem ap_byt (ht : P.underlying t = some (.slice e)) (hi : P.info? e = some i) (hz : i.zero = some z) (hsize : i.size = 1) (hby : i.bytes = 1) (hzs : z.cells.size = 1)
    (hown : w.ownsRow base e 1 v n xs) (s : Value) (bs : List UInt8) (hs : Byt w s bs)
    (h63 : n + bs.length ≤ 140737488355328) (hbase : base ≤ w.heap.size) (consts : Array Bool) :
    ∃ v' w', (builtin .append #[t, t] ty consts #[v, s]).run P w = .ok (.value v') w' ∧ Appended base e 1 w v n bs.length xs (u8s bs) v' w' := by
  obtain ⟨A, c, rfl, h0, h1⟩ := hs
  cases A with
  | none =>
    have hc := h0 rfl
    subst hc
    have hb : bs = [] := by
      by_cases hn : bs = []
      · exact hn
      · obtain ⟨_, _, h, _⟩ := h1 hn; cases h
    subst hb
    refine ⟨v, w, ?_, ?_, ?_, .inl rfl⟩
    · have := run_append_owned_none (P := P) w base t ty e i 1 ht hi v n xs hown
      simp only [builtin, Sem.run_bind, List.length_nil, this, Result.andThen_ok, Sem.run_pure]
    · simpa [u8s] using hown
    · exact ⟨rfl, rfl, rfl, Nat.le_refl _, fun _ _ _ => rfl⟩
  | some a =>
    refine ap_cells ht hi hz hsize hby hzs (by omega) hown a bs.length c (u8s bs) (by simp) ?_ (u8s_one bs) (by simp only [maxLen]; omega) (by omega) hbase consts
    intro j u hu
    have hn : bs ≠ [] := by rintro rfl; simp [u8s] at hu
    obtain ⟨b, off, he, h2⟩ := h1 hn
    injection he with he
    subst he
    rw [add_none]
    have hj : j < bs.length := by have := (List.getElem?_eq_some_iff.1 hu).1; simpa using this
    have hg : bs[j]? = some bs[j] := List.getElem?_eq_getElem hj
    rw [u8s_get bs j hg] at hu
    injection hu with hu
    subst hu
    exact h2 j _ hg
end

section
variable {w w' : World} {base : Nat} {e : TypeId} {size : Nat} {v v' : Value} {n m : Nat} {xs news : List Value}
theorem Appended.form {k : Nat} (h : Appended base e size w v n m xs news v' w') (hk : v.ownBlock = some k) : ∃ g cap, v' = .slice (some ⟨g, 0, none⟩) (n + m) cap ∧ (g = k ∨ g = w.heap.size) := by
  obtain ⟨h1, _, h3⟩ := h
  rcases own_form h1 with ⟨rfl, _, _⟩ | ⟨g, cap, cur, rfl, _⟩
  · rcases h3 with h3 | h3
    · rw [hk] at h3; cases h3
    · cases h3
  · refine ⟨g, cap, rfl, ?_⟩
    rcases h3 with h3 | h3
    · rw [hk] at h3; injection h3 with h3; exact .inl h3
    · injection h3 with h3; exact .inr h3
theorem Appended.fr {X : Nat → Prop} {w0 : World} (h : Appended base e size w v n m xs news v' w') (hf : Fr X w0 w) (hx : ∀ k, v.ownBlock = some k → k < w0.heap.size → X k) : Fr X w0 w' := hf.grown h.2.1 hx
theorem Appended.blk {g : Nat} {t : TypeId} {cs : Array Value} (h : Appended base e size w v n m xs news v' w') (hb : Blk w g t cs) (hne : v.ownBlock ≠ some g) : Blk w' g t cs :=
  (h.2.1.block g hb.lt (fun e => hne e.symm)).trans hb
end

/-! ### copy into a row, clear of a row's end -/
section
variable {P : Program} {w : World} {g : Nat} {T : TypeId} {cur : Array Value}
theorem splice_blk (hB : Blk w g T cur) (o : Nat) (cs : List Value) (hfit : o + cs.length ≤ cur.size) (h1 : ∀ v ∈ cs, v.oneCell' = true) :
    ∃ w', (storeCells ⟨g, o, none⟩ cs).run P w = .ok () w' ∧ Blk w' g T (cur.toList.take o ++ cs ++ cur.toList.drop (o + cs.length)).toArray ∧ Fr (fun k => k = g) w w' := by
  have hst := run_storeCells_at P g o T cs 0 cur w hB (by simpa using hfit) h1
  simp only [Nat.add_zero] at hst
  exact ⟨_, hst, setRow_heap w g cur _ T (0, 0) hB, Fr.setRow (X := fun k => k = g) (Fr.refl _ w) (fun _ => rfl) _⟩
theorem cp_row {t ty e : TypeId} {i : TypeInfo} {sz : Nat} (ht : P.underlying t = some (.slice e)) (hi : P.info? e = some i) (hsz : i.size = sz) (hB : Blk w g T cur) (od dl dc sl sc : Nat) (sp : Option Addr) (cs : List Value)
    (hle : sl ≤ dl) (hl : cs.length = sl * sz) (hsrc : 0 < sl → ∃ a, sp = some a ∧ ∀ j u, cs[j]? = some u → w.cell? (a.add j) = some u) (hfit : od + cs.length ≤ cur.size) (h1 : ∀ v ∈ cs, v.oneCell' = true) (consts : Array Bool) :
    ∃ v w', (builtin .copy #[t, t] ty consts #[.slice (some ⟨g, od, none⟩) dl dc, .slice sp sl sc]).run P w = .ok (.value v) w' ∧
      (Blk w' g T (cur.toList.take od ++ cs ++ cur.toList.drop (od + cs.length)).toArray ∧ Fr (fun k => k = g) w w') := by
  subst hsz
  obtain ⟨w', hst, hR⟩ := splice_blk (P := P) hB od cs hfit h1
  refine ⟨goInt sl, w', ?_, hR⟩
  have hmin : Nat.min sl dl = sl := Nat.min_eq_left hle
  have hfc : (Builtin.firstCells i.size sl (.slice sp sl sc)).run P w = .ok cs.toArray w := by
    by_cases h0 : 0 < sl
    · obtain ⟨a, rfl, hc⟩ := hsrc h0
      exact run_firstCells_some (P := P) w i.size sl a sl sc cs hl hc
    · obtain rfl : sl = 0 := by omega
      have hcs : cs = [] := List.eq_nil_of_length_eq_zero (by simpa using hl)
      subst hcs
      cases sp with
      | none => exact run_firstCells_none (P := P) w i.size 0 0 sc
      | some a => exact run_firstCells_some (P := P) w i.size 0 a 0 sc [] (by simp) (by simp)
  simp [builtin, Builtin.copy_, run_underlying ht, sizeOf, typeInfo, hi, Builtin.lenOf, hmin, hfc, hst]
theorem clr_row {t ty e : TypeId} {z : Value} {sz : Nat} (ht : P.underlying t = some (.slice e)) (hz : ∀ w, (zeroValue e).run P w = .ok z w) (hB : Blk w g T cur) (od n dc : Nat) (hn : 0 < n) (hs : z.cells.size = sz)
    (h1 : ∀ v ∈ (Builtin.zeroCells z.cells n).toList, v.oneCell' = true) (hfit : od + n * sz ≤ cur.size) (consts : Array Bool) :
    ∃ v w', (builtin .clear #[t] ty consts #[.slice (some ⟨g, od, none⟩) n dc]).run P w = .ok (.value v) w' ∧
      (Blk w' g T (cur.toList.take od ++ (Builtin.zeroCells z.cells n).toList ++ cur.toList.drop (od + n * sz)).toArray ∧ Fr (fun k => k = g) w w') := by
  have hlen : (Builtin.zeroCells z.cells n).toList.length = n * sz := by rw [Array.length_toList, size_zeroCells, hs]
  obtain ⟨w', hst, hR⟩ := splice_blk (P := P) hB od (Builtin.zeroCells z.cells n).toList (by rw [hlen]; exact hfit) h1
  rw [hlen] at hR
  refine ⟨.tuple #[], w', ?_, hR⟩
  cases n with
  | zero => omega
  | succ n => simp [builtin, Builtin.clear_, run_underlying ht, hz, hst]
end

/-! ### a result that lies in a block, beside another one -/
theorem results_row_tmp {P : Program} {fn : Func} {p u : Tmp} {ty : TypeId} (h : fn.results = #[.cell p ty, .tmp u]) (tmps : Array Value) (w : World) (g : Nat) (t : TypeId) (cs : Array Value) (fr : Nat × Nat) (d : TypeDesc)
    (hp : tmps.getD p undef = .pointer (some ⟨g, 0, none⟩)) (hg : w.heap[g]? = some (.cells cs t fr))
    (hu : P.underlying ty = some d) (hd : (match d with | .struct _ | .array _ _ => true | _ => false) = true) (hi : (P.info? ty).map (·.size) = some cs.size) :
    (results fn tmps).run P w = .ok (.tuple #[.agg cs, tmps.getD u undef]) w := by
  rw [results_cell_tmp h, hp]
  simp only [asAddr, Sem.run_pure, Result.andThen_ok, run_loadVar_row w g t ty cs fr d hg hu hd hi]

/-! ### string(b) -/
section
variable {P : Program} {w : World}
def strOf (bs : List UInt8) : ByteArray := ⟨bs.toArray⟩
theorem strOf_size (bs : List UInt8) : (strOf bs).size = bs.length := by simp [strOf, ByteArray.size]
theorem strOf_inj {a b : List UInt8} (h : strOf a = strOf b) : a = b := by
  unfold strOf at h
  injection h with h
  simpa using h
theorem run_str {src dst e : TypeId} (hs : P.underlying src = some (.slice e)) (he : P.underlying e = some (.int .u8)) (hd : P.underlying dst = some .string) {v : Value} {bs : List UInt8} (h : Byt w v bs) :
    (convert src dst v).run P w = .ok (.string (strOf bs)) w := by
  obtain ⟨A, c, rfl, h0, h1⟩ := h
  by_cases hn : bs = []
  · subst hn
    cases A with
    | none => rw [run_convert_bytes_nil w src e hs he _ _ dst hd]; rfl
    | some a =>
      simp only [List.length_nil]
      rw [run_convert_bytes_string w src dst e _ _ _ hs he hd, run_bytesToString w a 0 c [] (by simpa using run_loadCells_list (P := P) w a [] (by simp))]
      rfl
  · obtain ⟨b, off, rfl, h2⟩ := h1 hn
    rw [run_convert_bytes_arg w src e hs he b off bs.length c (bs.map fun u => (u.toNat : Int)) (by simp) (fun i hi => by
      rw [h2 i bs[i] (List.getElem?_eq_getElem hi)]
      simp [List.getD, List.getElem?_eq_getElem hi]) dst hd]
    congr 2
    simp only [strOfNums, strOf, List.map_map]
    congr 1
    have : ∀ l : List UInt8, (l.map ((fun n : Int => UInt8.ofNat n.toNat) ∘ fun u : UInt8 => (u.toNat : Int))) = l := by
      intro l; induction l with
      | nil => rfl
      | cons u l ih => simp [ih]
    rw [this]
end
end Go.Proofs.Ytpffmfjphlaiaaa
