/- The arguments of TopLine, opened: rows of bytes, moves. -/
import Derived.Test.YtpffmfjphlaiaaaLI
import Derived.OpenShut
import Derived.Deep.Slices
import Derived.Deep.Fields
namespace Go.Proofs.Ytpffmfjphlaiaaa
open Go.RowKit Go.ChangeShapes Go.WideShapes Go.Deep

theorem u64_of {n : Int} (h : (Lit.int .u64 n).wf = true) : 0 ≤ n ∧ n < 18446744073709551616 := by
  simp [Lit.wf, IntKind.min, IntKind.max, IntKind.signed, IntKind.bits] at h; exact ⟨by omega, by omega⟩
section
variable {H : Type} {enc : TypeId × Value → H} {w : World} {base : Nat} {spare : Nat → Bool} {held : Bool}
theorem trod_byt {fuel : Nat} {cs : List Value} {x : DataW H × List MemPlace} (h : DataW.trod enc Try.prog w base spare held fuel 24 cs = some x) :
    ∃ s bs, cs = [s] ∧ Byt w s bs ∧ bs.length ≤ maxLen ∧ ∀ k, s.ownBlock = some k → bs ≠ [] → k < w.heap.size := by
  rcases open_ints Try.underlying24 Try.underlying5 (by kernel_rfl) h with ⟨rfl, _⟩ | ⟨a, len, cap, zs, rfl, _, hl, hm, hz, _, hcell, hw⟩
  · exact ⟨_, [], rfl, ⟨none, 0, rfl, fun _ => rfl, fun h => absurd rfl h⟩, by simp, fun k hk => by simp [Value.ownBlock] at hk⟩
  · have hzl : len ≤ zs.length := by rw [hz]; split <;> omega
    have hlen : ((zs.take len).map fun z => UInt8.ofNat z.toNat).length = len := by simp; omega
    have hget : ∀ i u, ((zs.take len).map fun z => UInt8.ofNat z.toNat)[i]? = some u → i < len ∧ (u.toNat : Int) = zs.getD i 0 := by
      intro i u hu
      have hi : i < len := by rw [← hlen]; exact (List.getElem?_eq_some_iff.1 hu).1
      refine ⟨hi, ?_⟩
      rw [List.getElem?_map, List.getElem?_take, if_pos hi, List.getElem?_eq_getElem (by omega)] at hu
      simp only [Option.map_some, Option.some.injEq] at hu
      rw [List.getD_eq_getElem?_getD, List.getElem?_eq_getElem (by omega)]
      have := hw _ (List.getElem_mem (l := zs) (n := i) (by omega))
      simp [Lit.wf, IntKind.min, IntKind.max, IntKind.signed, IntKind.bits] at this
      rw [← hu]
      simp only [Option.getD_some, UInt8.toNat_ofNat']
      omega
    refine ⟨_, (zs.take len).map fun z => UInt8.ofNat z.toNat, rfl, ⟨some a, cap, by rw [hlen], (fun h => by cases h), fun hne => ?_⟩, by rw [hlen]; omega, fun k hk hne => ?_⟩
    · have hpos : 0 < len := by
        rcases Nat.eq_zero_or_pos len with h0 | h0
        · subst h0; simp at hne
        · exact h0
      obtain ⟨b, off, rfl, hc⟩ := ints_at hcell (by omega)
      exact ⟨b, off, rfl, fun i u hu => by rw [hc i (by have := (hget i u hu).1; omega), (hget i u hu).2]⟩
    · have hpos : 0 < len := by
        rcases Nat.eq_zero_or_pos len with h0 | h0
        · subst h0; simp at hne
        · exact h0
      obtain ⟨b, off, rfl, hc⟩ := ints_at hcell (by omega)
      simp only [Value.ownBlock] at hk
      injection hk with hk
      subst hk
      exact World.block_lt_of_cell? w _ (hc 0 (by omega))
theorem cells_at {a : Addr} {n : Nat} {cs : List Value} (h : w.cells? base a n = some cs) (hn : 0 < n) : ∃ b off, a = ⟨b, off, none⟩ ∧ b < w.heap.size ∧ ∀ j, j < n → w.cell? ⟨b, off + j, none⟩ = cs[j]? := by
  obtain ⟨_, hl, hc⟩ := World.cells?_some h
  obtain ⟨b, off, spot⟩ := a
  have h0 := hc 0 hn
  rw [List.getElem?_eq_getElem (by omega)] at h0
  have hspot : spot = none := by simpa [Addr.add] using World.cell?_spot h0
  subst hspot
  refine ⟨b, off, rfl, World.block_lt_of_cell? w _ h0, fun j hj => ?_⟩
  rw [← Go.WideShapes.add_plain]
  exact hc j hj
end
section
variable {H : Type} {enc : TypeId × Value → H} {w : World} {base : Nat} {spare : Nat → Bool} {held : Bool}
theorem trod_slice_of {T E : TypeId} {k : Nat} {α : Type} [Inhabited α] (hu : Try.prog.underlying T = some (.slice E)) (hc : Try.prog.cellsOf E = k) (hk : 0 < k) (El : Nat → Nat → α → Prop)
    (each : ∀ {fuel : Nat} {cs : List Value} {x : DataW H × List MemPlace}, DataW.trod enc Try.prog w base spare held fuel E cs = some x → ∃ y : α, ∀ b off, b < w.heap.size → (∀ j, j < k → w.cell? ⟨b, off + j, none⟩ = cs[j]?) → El b off y)
    {fuel : Nat} {cs : List Value} {x : DataW H × List MemPlace} (h : DataW.trod enc Try.prog w base spare held fuel T cs = some x) :
    ∃ (A : Option Addr) (c : Nat) (ps : List α), cs = [.slice A ps.length c] ∧ (ps.length ≤ c ∧ c ≤ maxLen) ∧ ∀ i y, ps[i]? = some y → ∃ b off, A = some ⟨b, off, none⟩ ∧ El b (off + i * k) y := by
  rcases open_slice hu h with ⟨rfl, _⟩ | ⟨a, len, cap, m, n, D, Pl, rfl, _, hl, hm, hmm, _, hi⟩
  · exact ⟨none, 0, [], rfl, ⟨by simp, by simp [maxLen]⟩, fun i p hp => by simp at hp⟩
  · have hle : len ≤ m := by rw [hmm]; split <;> omega
    rw [hc] at hi
    rcases Nat.eq_zero_or_pos len with h0 | h0
    · subst h0
      exact ⟨some a, cap, [], rfl, ⟨by simp, hm⟩, fun i p hp => by simp at hp⟩
    have ha : ∃ b off, a = ⟨b, off, none⟩ := by
      obtain ⟨cs', hc', _⟩ := hi 0 (by omega)
      obtain ⟨b, off, he, _⟩ := cells_at hc' (by omega)
      simp [Addr.add] at he
      exact ⟨b, off, he⟩
    obtain ⟨b, off, rfl⟩ := ha
    have each' : ∀ i, i < len → ∃ y : α, El b (off + i * k) y := by
      intro i hil
      obtain ⟨cs', hc', ht⟩ := hi i (by omega)
      obtain ⟨y, hy⟩ := each ht
      obtain ⟨b', off', he, hbl', hcell⟩ := cells_at hc' hk
      rw [Go.WideShapes.add_plain] at he
      injection he with he1 he2
      subst he1 he2
      exact ⟨y, hy _ _ hbl' hcell⟩
    obtain ⟨P, hP⟩ := choose_lt each'
    refine ⟨some ⟨b, off, none⟩, cap, (List.range len).map P, by simp, ⟨by simp; omega, hm⟩, fun i p hp => ?_⟩
    have hil : i < len := by have := (List.getElem?_eq_some_iff.1 hp).1; simpa using this
    rw [List.getElem?_map, List.getElem?_range hil] at hp
    simp only [Option.map_some, Option.some.injEq] at hp
    subst hp
    exact ⟨b, off, rfl, hP i hil⟩
end

/-- Rows of bytes. -/
def BytAt (w : World) (b o : Nat) (p : List UInt8) : Prop := ∃ s, w.cell? ⟨b, o, none⟩ = some s ∧ Byt w s p ∧ p.length ≤ maxLen ∧ b < w.heap.size
def RowL (w : World) (v : Value) (ps : List (List UInt8)) : Prop := ∃ A c, v = .slice A ps.length c ∧ (ps.length ≤ c ∧ c ≤ maxLen) ∧ ∀ i y, ps[i]? = some y → ∃ b off, A = some ⟨b, off, none⟩ ∧ BytAt w b (off + i) y
section
variable {H : Type} {enc : TypeId × Value → H} {w : World} {base : Nat} {spare : Nat → Bool} {held : Bool}
theorem trod_rows {fuel : Nat} {cs : List Value} {x : DataW H × List MemPlace} (h : DataW.trod enc Try.prog w base spare held fuel 22 cs = some x) : ∃ v l, cs = [v] ∧ RowL w v l := by
  obtain ⟨A, c, ps, rfl, h1, h2⟩ := trod_slice_of (E := 24) (k := 1) Try.underlying22 (by kernel_rfl) (by omega) (BytAt w) (fun {fuel cs x} ht => by
    obtain ⟨s, bs, rfl, hb, hbl, -⟩ := trod_byt ht
    exact ⟨bs, fun b off hb' hc => ⟨s, hc 0 (by omega), hb, hbl, hb'⟩⟩) h
  exact ⟨_, ps, rfl, A, c, rfl, h1, fun i y hy => by simpa using h2 i y hy⟩
/-- A move's cells. -/
structure Mov where
  k : Int
  a : Int
  b : Int
instance : Inhabited Mov := ⟨⟨0, 0, 0⟩⟩
def MovAt (w : World) (b o : Nat) (p : Mov) : Prop := w.cell? ⟨b, o, none⟩ = some (.int .i64 p.k) ∧ w.cell? ⟨b, o + 1, none⟩ = some (.int .i64 p.a) ∧ w.cell? ⟨b, o + 2, none⟩ = some (.int .i64 p.b) ∧ b < w.heap.size
def MovL (w : World) (v : Value) (ps : List Mov) : Prop := ∃ A c, v = .slice A ps.length c ∧ (ps.length ≤ c ∧ c ≤ maxLen) ∧ ∀ i y, ps[i]? = some y → ∃ b off, A = some ⟨b, off, none⟩ ∧ MovAt w b (off + i * 3) y
set_option maxRecDepth 100000 in
theorem trod_moves {fuel : Nat} {cs : List Value} {x : DataW H × List MemPlace} (h : DataW.trod enc Try.prog w base spare held fuel 23 cs = some x) : ∃ v l, cs = [v] ∧ MovL w v l := by
  obtain ⟨A, c, ps, rfl, h1, h2⟩ := trod_slice_of (E := 29) (k := 3) Try.underlying23 (by kernel_rfl) (by omega) (MovAt w) (fun {fuel cs x} ht => by
    obtain ⟨xs, n, _, _, hl, hxl, hf⟩ := DataW.trod_struct Try.underlying29 ht
    have hl3 : cs.length = 3 := hl.trans (by kernel_rfl)
    match cs, hl3 with
    | [c0, c1, c2], _ =>
      have g0 := hf 0 _ rfl
      have g1 := hf 1 _ rfl
      have g2 := hf 2 _ rfl
      have l3 : xs.length = 3 := hxl.trans rfl
      match xs, l3 with
      | [y0, y1, y2], _ =>
        have e0 : DataW.trod enc Try.prog w base spare held n 3 [c0] = some y0 := g0
        have e1 : DataW.trod enc Try.prog w base spare held n 3 [c1] = some y1 := g1
        have e2 : DataW.trod enc Try.prog w base spare held n 3 [c2] = some y2 := g2
        obtain ⟨k, hc0, _, _⟩ := DataW.trod_int Try.underlying3 e0
        obtain ⟨a, hc1, _, _⟩ := DataW.trod_int Try.underlying3 e1
        obtain ⟨b, hc2, _, _⟩ := DataW.trod_int Try.underlying3 e2
        injection hc0 with hc0 _
        injection hc1 with hc1 _
        injection hc2 with hc2 _
        subst hc0 hc1 hc2
        exact ⟨⟨k, a, b⟩, fun b off hb' hc => ⟨hc 0 (by omega), hc 1 (by omega), hc 2 (by omega), hb'⟩⟩) h
  exact ⟨_, ps, rfl, A, c, rfl, h1, h2⟩
end
section
variable {w w' : World} {v : Value} {X : Nat → Prop}
theorem BytAt.up {b o : Nat} {p : List UInt8} (h : BytAt w b o p) (hf : Fr X w w') (hx : ∀ k, k < w.heap.size → ¬ X k) : BytAt w' b o p := by
  obtain ⟨s, h1, h2, h3, h4⟩ := h
  have hz := hf.size
  exact ⟨s, hf.cell h1 (hx b h4), Byt.fr' h2 hf (fun k hk hn => by
    obtain ⟨k2, hk2, hlt⟩ := h2.lt hn
    rw [hk2] at hk
    injection hk with hk
    subst hk
    exact hx _ hlt), h3, by omega⟩
theorem RowL.up {ps : List (List UInt8)} (h : RowL w v ps) (hf : Fr X w w') (hx : ∀ k, k < w.heap.size → ¬ X k) : RowL w' v ps := by
  obtain ⟨A, c, h1, h2, h3⟩ := h
  exact ⟨A, c, h1, h2, fun i y hy => by
    obtain ⟨b, off, h4, h5⟩ := h3 i y hy
    exact ⟨b, off, h4, h5.up hf hx⟩⟩
theorem MovL.up {ps : List Mov} (h : MovL w v ps) (hf : Fr X w w') (hx : ∀ k, k < w.heap.size → ¬ X k) : MovL w' v ps := by
  obtain ⟨A, c, h1, h2, h3⟩ := h
  have hz := hf.size
  exact ⟨A, c, h1, h2, fun i y hy => by
    obtain ⟨b, off, h4, h5, h6, h7, h8⟩ := h3 i y hy
    exact ⟨b, off, h4, hf.cell h5 (hx b h8), hf.cell h6 (hx b h8), hf.cell h7 (hx b h8), by omega⟩⟩
end
end Go.Proofs.Ytpffmfjphlaiaaa
