/- What ProposeSafe holds in memory; its arguments, opened. -/
import Derived.Test.YtliljjlegofmkaaPSf
import Derived.Test.YtliljjlegofmkaaPU
import Derived.OpenShut
import Derived.Deep.Slices
import Derived.Deep.Fields
namespace Go.Proofs.Ytliljjlegofmkaa
open Go.RowKit Go.ChangeShapes Go.WideShapes Go.Deep

/-! ### a slice of anything, opened -/
section
variable {H : Type} {enc : TypeId × Value → H} {w : World} {base : Nat} {spare : Nat → Bool} {held : Bool}
theorem trod_slice_of {T E : TypeId} {k : Nat} {α : Type} [Inhabited α] (hu : Try.prog.underlying T = some (.slice E)) (hc : Try.prog.cellsOf E = k) (hk : 0 < k) (El : Nat → Nat → α → Prop)
    (each : ∀ {fuel : Nat} {cs : List Value} {x : DataW H × List MemPlace}, DataW.trod enc Try.prog w base spare held fuel E cs = some x → ∃ y : α, ∀ b off, b < w.heap.size → (∀ j, j < k → w.cell? ⟨b, off + j, none⟩ = cs[j]?) → El b off y)
    {fuel : Nat} {cs : List Value} {x : DataW H × List MemPlace} (h : DataW.trod enc Try.prog w base spare held fuel T cs = some x) :
    ∃ (A : Option Addr) (c : Nat) (ps : List α), cs = [.slice A ps.length c] ∧ ps.length ≤ maxLen ∧ ∀ i y, ps[i]? = some y → ∃ b off, A = some ⟨b, off, none⟩ ∧ El b (off + i * k) y := by
  rcases open_slice hu h with ⟨rfl, _⟩ | ⟨a, len, cap, m, n, D, Pl, rfl, _, hl, hm, hmm, _, hi⟩
  · exact ⟨none, 0, [], rfl, by simp, fun i p hp => by simp at hp⟩
  · have hle : len ≤ m := by rw [hmm]; split <;> omega
    rw [hc] at hi
    rcases Nat.eq_zero_or_pos len with h0 | h0
    · subst h0
      exact ⟨some a, cap, [], rfl, by simp, fun i p hp => by simp at hp⟩
    have ha : ∃ b off, a = ⟨b, off, none⟩ := by
      obtain ⟨cs', hc', _⟩ := hi 0 (by omega)
      obtain ⟨b, off, he, _⟩ := cells_at hc' (by omega)
      simp [Addr.add] at he
      exact ⟨b, off, he⟩
    obtain ⟨b, off, rfl⟩ := ha
    have each' : ∀ i, i < len → ∃ y : α, El b (off + i * k) y := by
      intro i hil
      obtain ⟨cs', hc', ht⟩ := hi i (by omega)
      obtain ⟨y, hy⟩ := each ht
      obtain ⟨b', off', he, hbl', hcell⟩ := cells_at hc' hk
      rw [Go.WideShapes.add_plain] at he
      injection he with he1 he2
      subst he1 he2
      exact ⟨y, hy _ _ hbl' hcell⟩
    obtain ⟨P, hP⟩ := choose_lt each'
    refine ⟨some ⟨b, off, none⟩, cap, (List.range len).map P, by simp, by simp; omega, fun i p hp => ?_⟩
    have hil : i < len := by have := (List.getElem?_eq_some_iff.1 hp).1; simpa using this
    rw [List.getElem?_map, List.getElem?_range hil] at hp
    simp only [Option.map_some, Option.some.injEq] at hp
    subst hp
    exact ⟨b, off, rfl, hP i hil⟩
end

/-- Pairs of sets. -/
def SetAt (w : World) (b o : Nat) (p : Nat × Nat) : Prop := w.cell? ⟨b, o, none⟩ = some (.int .u32 p.1) ∧ w.cell? ⟨b, o + 1, none⟩ = some (.int .u32 p.2) ∧ p.1 < 4294967296 ∧ p.2 < 4294967296 ∧ b < w.heap.size
def SetL (w : World) (v : Value) (ps : List (Nat × Nat)) : Prop := ∃ A c, v = .slice A ps.length c ∧ ps.length ≤ maxLen ∧ ∀ i y, ps[i]? = some y → ∃ b off, A = some ⟨b, off, none⟩ ∧ SetAt w b (off + i * 2) y
/-- Rows of bytes. -/
def BytAt (w : World) (b o : Nat) (p : List UInt8) : Prop := ∃ s, w.cell? ⟨b, o, none⟩ = some s ∧ Byt w s p ∧ p.length ≤ maxLen ∧ b < w.heap.size
def RowL (w : World) (v : Value) (ps : List (List UInt8)) : Prop := ∃ A c, v = .slice A ps.length c ∧ ps.length ≤ maxLen ∧ ∀ i y, ps[i]? = some y → ∃ b off, A = some ⟨b, off, none⟩ ∧ BytAt w b (off + i) y
section
variable {H : Type} {enc : TypeId × Value → H} {w : World} {base : Nat} {spare : Nat → Bool} {held : Bool}
set_option maxRecDepth 100000 in
theorem trod_sets {fuel : Nat} {cs : List Value} {x : DataW H × List MemPlace} (h : DataW.trod enc Try.prog w base spare held fuel 25 cs = some x) : ∃ v l, cs = [v] ∧ SetL w v l := by
  obtain ⟨A, c, ps, rfl, h1, h2⟩ := trod_slice_of (E := 42) (k := 2) Try.underlying25 (by kernel_rfl) (by omega) (SetAt w) (fun {fuel cs x} ht => by
    obtain ⟨xs, m, _, _, hl, hxl, hf⟩ := DataW.trod_array Try.underlying42 ht
    have hl2 : cs.length = 2 := hl.trans (by kernel_rfl)
    match cs, hl2 with
    | [c0, c1], _ =>
      have ce : Try.prog.cellsOf 41 = 1 := by kernel_rfl
      have g0 := hf 0 (by omega)
      have g1 := hf 1 (by omega)
      rw [ce] at g0 g1
      match xs, hxl with
      | [y0, y1], _ =>
        have e0 : DataW.trod enc Try.prog w base spare held m 41 [c0] = some y0 := g0
        have e1 : DataW.trod enc Try.prog w base spare held m 41 [c1] = some y1 := g1
        obtain ⟨a, hc0, _, wf0⟩ := DataW.trod_int Try.underlying41 e0
        obtain ⟨b, hc1, _, wf1⟩ := DataW.trod_int Try.underlying41 e1
        obtain ⟨h4, h5⟩ := u32_of wf0
        obtain ⟨h6, h7⟩ := u32_of wf1
        obtain ⟨a, rfl⟩ := Int.eq_ofNat_of_zero_le h4
        obtain ⟨b, rfl⟩ := Int.eq_ofNat_of_zero_le h6
        injection hc0 with hc0 _
        injection hc1 with hc1 _
        subst hc0 hc1
        exact ⟨(a, b), fun bl off hbl hc => ⟨hc 0 (by omega), hc 1 (by omega), by show a < _; omega, by show b < _; omega, hbl⟩⟩) h
  exact ⟨_, ps, rfl, A, c, rfl, h1, h2⟩
set_option maxRecDepth 100000 in
theorem trod_rows {fuel : Nat} {cs : List Value} {x : DataW H × List MemPlace} (h : DataW.trod enc Try.prog w base spare held fuel 26 cs = some x) : ∃ v l, cs = [v] ∧ RowL w v l := by
  obtain ⟨A, c, ps, rfl, h1, h2⟩ := trod_slice_of (E := 35) (k := 1) Try.underlying26 (by kernel_rfl) (by omega) (BytAt w) (fun {fuel cs x} ht => by
    obtain ⟨s, bs, rfl, hb, hbl, -⟩ := trod_byt ht
    exact ⟨bs, fun b off hb' hc => ⟨s, hc 0 (by omega), hb, hbl, hb'⟩⟩) h
  exact ⟨_, ps, rfl, A, c, rfl, h1, fun i y hy => by simpa using h2 i y hy⟩
end

/-! ### the two arrays -/
/-- None of the ballots that nodes promised is above b. -/
def Prom (w : World) (pb : Nat) (b : Nat) (d : Int) : Prop :=
  ∃ cur, Blk w pb 34 cur ∧ cur.size = 24 ∧ ∀ i, i < 12 → ∃ (x : Nat) (y : Int), cur[i * 2]? = some (.int .u64 x) ∧ cur[i * 2 + 1]? = some (.int .i64 y) ∧ lessB b d x y = false
/-- Each node's votes: none, or one. -/
def Vts (w : World) (vb : Nat) (vt : Nat → Option Vt) (X : Nat → Prop) : Prop :=
  ∃ cur, Blk w vb 30 cur ∧ cur.size = 12 ∧ ∀ i, i < 12 → ∃ s, cur[i]? = some s ∧ VtL w s (vt i).toList X
section
variable {w w' : World} {pb vb b c : Nat} {d e : Int} {vt : Nat → Option Vt} {X Y : Nat → Prop}
theorem Prom.fr (h : Prom w pb b d) (hf : Fr X w w') (hx : ¬ X pb) : Prom w' pb b d := by
  obtain ⟨cur, h1, h2, h3⟩ := h
  exact ⟨cur, h1.fr hf hx, h2, h3⟩
theorem Prom.up (h : Prom w pb b d) (hb : lessB c e b d = false) : Prom w pb c e := by
  obtain ⟨cur, h1, h2, h3⟩ := h
  refine ⟨cur, h1, h2, fun i hi => ?_⟩
  obtain ⟨x, y, h4, h5, h6⟩ := h3 i hi
  exact ⟨x, y, h4, h5, less_tr hb h6⟩
theorem Prom.at (h : Prom w pb b d) {i : Nat} (hi : i < 12) : ∃ (x : Nat) (y : Int), w.cell? ⟨pb, i * 2, none⟩ = some (.int .u64 x) ∧ w.cell? ⟨pb, i * 2 + 1, none⟩ = some (.int .i64 y) ∧ lessB b d x y = false := by
  obtain ⟨cur, h1, h2, h3⟩ := h
  obtain ⟨x, y, h4, h5, h6⟩ := h3 i hi
  exact ⟨x, y, h1.cell _ h4, h1.cell _ h5, h6⟩
theorem Prom.frozen (h : Prom w pb b d) (i : Nat) : w.frozen? ⟨pb, i, none⟩ = false := by
  obtain ⟨cur, h1, h2, h3⟩ := h
  exact h1.frozen i
theorem Prom.put (h : Prom w pb b d) {i : Nat} (hi : i < 12) : Prom ((w.setCell ⟨pb, i * 2, none⟩ (.int .u64 b)).setCell ⟨pb, i * 2 + 1, none⟩ (.int .i64 d)) pb b d := by
  obtain ⟨cur, h1, h2, h3⟩ := h
  refine ⟨_, (h1.set_ (i * 2) (.int .u64 b)).set_ (i * 2 + 1) (.int .i64 d), by simp [h2], fun j hj => ?_⟩
  by_cases hij : j = i
  · subst hij
    refine ⟨b, d, ?_, ?_, less_irr b d⟩
    · rw [Array.getElem?_setIfInBounds_ne (by omega), Array.getElem?_setIfInBounds_self_of_lt (by omega)]
    · rw [Array.getElem?_setIfInBounds_self_of_lt (by simp; omega)]
  · obtain ⟨x, y, h4, h5, h6⟩ := h3 j hj
    refine ⟨x, y, ?_, ?_, h6⟩
    · rw [Array.getElem?_setIfInBounds_ne (by omega), Array.getElem?_setIfInBounds_ne (by omega)]; exact h4
    · rw [Array.getElem?_setIfInBounds_ne (by omega), Array.getElem?_setIfInBounds_ne (by omega)]; exact h5
theorem Vts.fr (h : Vts w vb vt X) (hf : Fr Y w w') (hx : ∀ k, Y k → X k) (hb : ¬ Y vb) : Vts w' vb vt X := by
  obtain ⟨cur, h1, h2, h3⟩ := h
  refine ⟨cur, h1.fr hf hb, h2, fun i hi => ?_⟩
  obtain ⟨s, h4, h5⟩ := h3 i hi
  exact ⟨s, h4, h5.up hf hx⟩
theorem Vts.more (h : Vts w vb vt X) (hy : ∀ k, Y k → X k ∨ w.heap.size ≤ k) : Vts w vb vt Y := by
  obtain ⟨cur, h1, h2, h3⟩ := h
  refine ⟨cur, h1, h2, fun i hi => ?_⟩
  obtain ⟨s, h4, h5⟩ := h3 i hi
  exact ⟨s, h4, h5.lt.mono hy⟩
theorem Vts.at (h : Vts w vb vt X) {i : Nat} (hi : i < 12) : ∃ s, w.cell? ⟨vb, i, none⟩ = some s ∧ VtL w s (vt i).toList X := by
  obtain ⟨cur, h1, h2, h3⟩ := h
  obtain ⟨s, h4, h5⟩ := h3 i hi
  exact ⟨s, h1.cell _ h4, h5⟩
theorem Vts.frozen (h : Vts w vb vt X) (i : Nat) : w.frozen? ⟨vb, i, none⟩ = false := by
  obtain ⟨cur, h1, h2, h3⟩ := h
  exact h1.frozen i
theorem Vts.put (h : Vts w vb vt X) {i : Nat} (hi : i < 12) {s : Value} {V : Vt} (hs : VtL w s [V] X) (hX : X vb) : Vts (w.setCell ⟨vb, i, none⟩ s) vb (upd vt i V) X := by
  obtain ⟨cur, h1, h2, h3⟩ := h
  have hf := Fr.set1 w vb i s
  refine ⟨_, h1.set_ i s, by simp [h2], fun j hj => ?_⟩
  by_cases hij : j = i
  · subst hij
    refine ⟨s, Array.getElem?_setIfInBounds_self_of_lt (by omega), ?_⟩
    rw [show (upd vt j V j).toList = [V] by simp [upd]]
    exact hs.up hf (fun k hk => by rw [hk]; exact hX)
  · obtain ⟨u, h4, h5⟩ := h3 j hj
    refine ⟨u, by rw [Array.getElem?_setIfInBounds_ne (fun e => hij e.symm)]; exact h4, ?_⟩
    rw [show upd vt i V j = vt j by simp [upd, hij]]
    exact h5.up hf (fun k hk => by rw [hk]; exact hX)
end
end Go.Proofs.Ytliljjlegofmkaa
