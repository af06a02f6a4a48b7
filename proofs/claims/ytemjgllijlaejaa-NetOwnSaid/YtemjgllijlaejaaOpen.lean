/- Packets, acts and lists of them, as they come in. -/
import Derived.Test.YtemjgllijlaejaaMem
import Derived.Test.YtemjgllijlaejaaNetB
import Derived.OpenShut
import Derived.Deep.Slices
import Derived.Deep.Fields
namespace Go.Proofs.Ytemjgllijlaejaa
open Go.RowKit Go.ChangeShapes Go.WideShapes Go.Deep
section
variable {H : Type} {enc : TypeId × Value → H} {w : World} {base : Nat} {spare : Nat → Bool} {held : Bool}

theorem trod_byt {fuel : Nat} {cs : List Value} {x : DataW H × List MemPlace} (h : DataW.trod enc Try.prog w base spare held fuel 27 cs = some x) :
    ∃ s bs, cs = [s] ∧ Byt w s bs ∧ bs.length ≤ maxLen ∧ ∀ k, s.ownBlock = some k → bs ≠ [] → k < w.heap.size := by
  rcases open_ints Try.underlying27 Try.underlying5 (by kernel_rfl) h with ⟨rfl, _⟩ | ⟨a, len, cap, zs, rfl, _, hl, hm, hz, _, hcell, hw⟩
  · exact ⟨_, [], rfl, ⟨none, 0, rfl, fun _ => rfl, fun h => absurd rfl h⟩, by simp, fun k hk => by simp [Value.ownBlock] at hk⟩
  · have hzl : len ≤ zs.length := by rw [hz]; split <;> omega
    have hlen : ((zs.take len).map fun z => UInt8.ofNat z.toNat).length = len := by simp; omega
    have hget : ∀ i u, ((zs.take len).map fun z => UInt8.ofNat z.toNat)[i]? = some u → i < len ∧ (u.toNat : Int) = zs.getD i 0 := by
      intro i u hu
      have hi : i < len := by rw [← hlen]; exact (List.getElem?_eq_some_iff.1 hu).1
      refine ⟨hi, ?_⟩
      rw [List.getElem?_map, List.getElem?_take, if_pos hi, List.getElem?_eq_getElem (by omega)] at hu
      simp only [Option.map_some, Option.some.injEq] at hu
      rw [List.getD_eq_getElem?_getD, List.getElem?_eq_getElem (by omega)]
      have := hw _ (List.getElem_mem (l := zs) (n := i) (by omega))
      simp [Lit.wf, IntKind.min, IntKind.max, IntKind.signed, IntKind.bits] at this
      rw [← hu]
      simp only [Option.getD_some, UInt8.toNat_ofNat']
      omega
    refine ⟨_, (zs.take len).map fun z => UInt8.ofNat z.toNat, rfl, ⟨some a, cap, by rw [hlen], (fun h => by cases h), fun hne => ?_⟩, by rw [hlen]; omega, fun k hk hne => ?_⟩
    · have hpos : 0 < len := by
        rcases Nat.eq_zero_or_pos len with h0 | h0
        · subst h0; simp at hne
        · exact h0
      obtain ⟨b, off, rfl, hc⟩ := ints_at hcell (by omega)
      exact ⟨b, off, rfl, fun i u hu => by rw [hc i (by have := (hget i u hu).1; omega), (hget i u hu).2]⟩
    · have hpos : 0 < len := by
        rcases Nat.eq_zero_or_pos len with h0 | h0
        · subst h0; simp at hne
        · exact h0
      obtain ⟨b, off, rfl, hc⟩ := ints_at hcell (by omega)
      simp only [Value.ownBlock] at hk
      injection hk with hk
      subst hk
      exact World.block_lt_of_cell? w _ (hc 0 (by omega))

/-- The cells of a packet. -/
theorem trod_pk {fuel : Nat} {cs : List Value} {x : DataW H × List MemPlace} (h : DataW.trod enc Try.prog w base spare held fuel 29 cs = some x) :
    ∃ f t s bs, cs = [.int .i64 f, .int .i64 t, s] ∧ Byt w s bs ∧ bs.length ≤ maxLen ∧ (Lit.int .i64 f).wf = true ∧ (Lit.int .i64 t).wf = true := by
  obtain ⟨xs, n, _, hx, hlen, hxl, hf⟩ := DataW.trod_struct Try.underlying29 h
  have hl3 : cs.length = 3 := hlen.trans (by kernel_rfl)
  match cs, hl3 with
  | [c0, c1, c2], _ =>
    have g0 := hf 0 _ rfl
    have g1 := hf 1 _ rfl
    have g2 := hf 2 _ rfl
    have l3 : xs.length = 3 := hxl.trans rfl
    match xs, l3 with
    | [y0, y1, y2], _ =>
      have e0 : DataW.trod enc Try.prog w base spare held n 3 [c0] = some y0 := g0
      have e1 : DataW.trod enc Try.prog w base spare held n 3 [c1] = some y1 := g1
      have e2 : DataW.trod enc Try.prog w base spare held n 27 [c2] = some y2 := g2
      obtain ⟨f, hc0, _, wf0⟩ := DataW.trod_int Try.underlying3 e0
      obtain ⟨t, hc1, _, wf1⟩ := DataW.trod_int Try.underlying3 e1
      obtain ⟨s, bs, hc2, hb, hbl, _⟩ := trod_byt e2
      injection hc0 with hc0 _
      injection hc1 with hc1 _
      injection hc2 with hc2 _
      subst hc0 hc1 hc2
      exact ⟨f, t, c2, bs, rfl, hb, hbl, wf0, wf1⟩

/-- The cells of an act. -/
theorem trod_act {fuel : Nat} {cs : List Value} {x : DataW H × List MemPlace} (h : DataW.trod enc Try.prog w base spare held fuel 46 cs = some x) :
    ∃ k a b f t s bs, cs = [.int .i64 k, .int .i64 a, .int .i64 b, .int .i64 f, .int .i64 t, s] ∧ Byt w s bs ∧ bs.length ≤ maxLen ∧
      (Lit.int .i64 k).wf = true ∧ (Lit.int .i64 a).wf = true ∧ (Lit.int .i64 b).wf = true ∧ (Lit.int .i64 f).wf = true ∧ (Lit.int .i64 t).wf = true := by
  obtain ⟨xs, n, _, hx, hlen, hxl, hf⟩ := DataW.trod_struct Try.underlying46 h
  have hl6 : cs.length = 6 := hlen.trans (by kernel_rfl)
  match cs, hl6 with
  | [c0, c1, c2, c3, c4, c5], _ =>
    have g0 := hf 0 _ rfl
    have g1 := hf 1 _ rfl
    have g2 := hf 2 _ rfl
    have g3 := hf 3 _ rfl
    have l4 : xs.length = 4 := hxl.trans rfl
    match xs, l4 with
    | [y0, y1, y2, y3], _ =>
      have e0 : DataW.trod enc Try.prog w base spare held n 3 [c0] = some y0 := g0
      have e1 : DataW.trod enc Try.prog w base spare held n 3 [c1] = some y1 := g1
      have e2 : DataW.trod enc Try.prog w base spare held n 3 [c2] = some y2 := g2
      have e3 : DataW.trod enc Try.prog w base spare held n 29 [c3, c4, c5] = some y3 := g3
      obtain ⟨k, hc0, _, wf0⟩ := DataW.trod_int Try.underlying3 e0
      obtain ⟨a, hc1, _, wf1⟩ := DataW.trod_int Try.underlying3 e1
      obtain ⟨b, hc2, _, wf2⟩ := DataW.trod_int Try.underlying3 e2
      obtain ⟨f, t, s, bs, hc3, hb, hbl, wf3, wf4⟩ := trod_pk e3
      injection hc0 with hc0 _
      injection hc1 with hc1 _
      injection hc2 with hc2 _
      injection hc3 with hc3 hc4
      injection hc4 with hc4 hc5
      injection hc5 with hc5 _
      subst hc0 hc1 hc2 hc3 hc4 hc5
      exact ⟨k, a, b, f, t, c5, bs, rfl, hb, hbl, wf0, wf1, wf2, wf3, wf4⟩
end

def i64 (n : Int) : Prop := -9223372036854775808 ≤ n ∧ n ≤ 9223372036854775807
theorem i64_of {n : Int} (h : (Lit.int .i64 n).wf = true) : i64 n := by
  simp [Lit.wf, IntKind.min, IntKind.max, IntKind.signed, IntKind.bits] at h; exact ⟨by omega, by omega⟩

instance : Inhabited Pk := ⟨⟨0, 0, []⟩⟩
/-- A packet's cells at a place. -/
structure PkAt (w : World) (b o : Nat) (p : Pk) (s : Value) : Prop where
  f : w.cell? ⟨b, o, none⟩ = some (.int .i64 p.f)
  t : w.cell? ⟨b, o + 1, none⟩ = some (.int .i64 p.t)
  c : w.cell? ⟨b, o + 2, none⟩ = some s
  b : Byt w s p.b
  l : p.b.length ≤ maxLen
theorem PkAt.keep {w w' : World} {b o : Nat} {p : Pk} {s : Value} {B : Nat} (h : PkAt w b o p s) (hB : w.heap.size ≤ B) (hf : Fr (fun k => B ≤ k) w w') : PkAt w' b o p s := by
  have hb : b < w.heap.size := World.block_lt_of_cell? w _ h.f
  exact ⟨hf.cell h.f (by simp; omega), hf.cell h.t (by simp; omega), hf.cell h.c (by simp; omega), h.b.keep hB hf, h.l⟩

/-- A list of packets. -/
def PkL (w : World) (v : Value) (ps : List Pk) : Prop :=
  ∃ A c, v = .slice A ps.length c ∧ ps.length ≤ maxLen ∧ ∀ i p, ps[i]? = some p → ∃ b off s, A = some ⟨b, off, none⟩ ∧ b < w.heap.size ∧ PkAt w b (off + i * 3) p s
/-- An act: its kind, its numbers, its packet. -/
structure At where
  k : Int
  a : Int
  b : Int
  p : Pk
instance : Inhabited At := ⟨⟨0, 0, 0, ⟨0, 0, []⟩⟩⟩
def AtL (w : World) (v : Value) (xs : List At) : Prop :=
  ∃ A c, v = .slice A xs.length c ∧ xs.length ≤ maxLen ∧ ∀ i x, xs[i]? = some x → ∃ b off s, A = some ⟨b, off, none⟩ ∧ b < w.heap.size ∧ i64 x.k ∧ i64 x.a ∧ i64 x.b ∧
    w.cell? ⟨b, off + i * 6, none⟩ = some (.int .i64 x.k) ∧ w.cell? ⟨b, off + i * 6 + 1, none⟩ = some (.int .i64 x.a) ∧ w.cell? ⟨b, off + i * 6 + 2, none⟩ = some (.int .i64 x.b) ∧ PkAt w b (off + i * 6 + 3) x.p s

section
variable {H : Type} {enc : TypeId × Value → H} {w : World} {base : Nat} {spare : Nat → Bool} {held : Bool}
theorem cells_at {a : Addr} {n : Nat} {cs : List Value} (h : w.cells? base a n = some cs) (hn : 0 < n) : ∃ b off, a = ⟨b, off, none⟩ ∧ b < w.heap.size ∧ ∀ j, j < n → w.cell? ⟨b, off + j, none⟩ = cs[j]? := by
  obtain ⟨_, hl, hc⟩ := World.cells?_some h
  obtain ⟨b, off, spot⟩ := a
  have h0 := hc 0 hn
  rw [List.getElem?_eq_getElem (by omega)] at h0
  have hspot : spot = none := by simpa [Addr.add] using World.cell?_spot h0
  subst hspot
  refine ⟨b, off, rfl, World.block_lt_of_cell? w _ h0, fun j hj => ?_⟩
  rw [← Go.WideShapes.add_plain]
  exact hc j hj
theorem trod_pks {fuel : Nat} {cs : List Value} {x : DataW H × List MemPlace} (h : DataW.trod enc Try.prog w base spare held fuel 22 cs = some x) :
    ∃ v ps, cs = [v] ∧ PkL w v ps := by
  have hc3 : Try.prog.cellsOf 29 = 3 := by kernel_rfl
  rcases open_slice Try.underlying22 h with ⟨rfl, _⟩ | ⟨a, len, cap, m, n, D, Pl, rfl, _, hl, hm, hmm, _, hi⟩
  · exact ⟨_, [], rfl, none, 0, rfl, by simp, fun i p hp => by simp at hp⟩
  · have hle : len ≤ m := by rw [hmm]; split <;> omega
    rw [hc3] at hi
    rcases Nat.eq_zero_or_pos len with h0 | h0
    · subst h0
      exact ⟨_, [], rfl, some a, cap, rfl, by simp, fun i p hp => by simp at hp⟩
    have ha : ∃ b off, a = ⟨b, off, none⟩ := by
      obtain ⟨cs', hc, _⟩ := hi 0 (by omega)
      obtain ⟨b, off, he, _⟩ := cells_at hc (by omega)
      simp [Addr.add] at he
      exact ⟨b, off, he⟩
    obtain ⟨b, off, rfl⟩ := ha
    have each : ∀ i, i < len → ∃ p : Pk, ∃ s, b < w.heap.size ∧ PkAt w b (off + i * 3) p s := by
      intro i hil
      obtain ⟨cs', hc, ht⟩ := hi i (by omega)
      obtain ⟨f, t, s, bs, rfl, hb, hbl, _, _⟩ := trod_pk ht
      obtain ⟨b', off', he, hbl', hcell⟩ := cells_at hc (by omega)
      rw [Go.WideShapes.add_plain] at he
      injection he with he1 he2
      subst he1 he2
      exact ⟨⟨f, t, bs⟩, s, hbl', hcell 0 (by omega), hcell 1 (by omega), hcell 2 (by omega), hb, hbl⟩
    obtain ⟨P, hP⟩ := choose_lt each
    refine ⟨_, (List.range len).map P, rfl, some ⟨b, off, none⟩, cap, by simp, by simp; omega, fun i p hp => ?_⟩
    have hil : i < len := by have := (List.getElem?_eq_some_iff.1 hp).1; simpa using this
    rw [List.getElem?_map, List.getElem?_range hil] at hp
    simp only [Option.map_some, Option.some.injEq] at hp
    subst hp
    obtain ⟨s, hb, h⟩ := hP i hil
    exact ⟨b, off, s, rfl, hb, h⟩

theorem trod_acts {fuel : Nat} {cs : List Value} {x : DataW H × List MemPlace} (h : DataW.trod enc Try.prog w base spare held fuel 44 cs = some x) :
    ∃ v xs, cs = [v] ∧ AtL w v xs := by
  have hc6 : Try.prog.cellsOf 46 = 6 := by kernel_rfl
  rcases open_slice Try.underlying44 h with ⟨rfl, _⟩ | ⟨a, len, cap, m, n, D, Pl, rfl, _, hl, hm, hmm, _, hi⟩
  · exact ⟨_, [], rfl, none, 0, rfl, by simp, fun i p hp => by simp at hp⟩
  · have hle : len ≤ m := by rw [hmm]; split <;> omega
    rw [hc6] at hi
    rcases Nat.eq_zero_or_pos len with h0 | h0
    · subst h0
      exact ⟨_, [], rfl, some a, cap, rfl, by simp, fun i p hp => by simp at hp⟩
    have ha : ∃ b off, a = ⟨b, off, none⟩ := by
      obtain ⟨cs', hc, _⟩ := hi 0 (by omega)
      obtain ⟨b, off, he, _⟩ := cells_at hc (by omega)
      simp [Addr.add] at he
      exact ⟨b, off, he⟩
    obtain ⟨b, off, rfl⟩ := ha
    have each : ∀ i, i < len → ∃ x : At, ∃ s, b < w.heap.size ∧ i64 x.k ∧ i64 x.a ∧ i64 x.b ∧
        w.cell? ⟨b, off + i * 6, none⟩ = some (.int .i64 x.k) ∧ w.cell? ⟨b, off + i * 6 + 1, none⟩ = some (.int .i64 x.a) ∧ w.cell? ⟨b, off + i * 6 + 2, none⟩ = some (.int .i64 x.b) ∧ PkAt w b (off + i * 6 + 3) x.p s := by
      intro i hil
      obtain ⟨cs', hc, ht⟩ := hi i (by omega)
      obtain ⟨k, a', b1, f, t, s, bs, rfl, hb, hbl, w0, w1, w2, _, _⟩ := trod_act ht
      obtain ⟨b', off', he, hbl', hcell⟩ := cells_at hc (by omega)
      rw [Go.WideShapes.add_plain] at he
      injection he with he1 he2
      subst he1 he2
      exact ⟨⟨k, a', b1, ⟨f, t, bs⟩⟩, s, hbl', i64_of w0, i64_of w1, i64_of w2, hcell 0 (by omega), hcell 1 (by omega), hcell 2 (by omega), hcell 3 (by omega), hcell 4 (by omega), hcell 5 (by omega), hb, hbl⟩
    obtain ⟨P, hP⟩ := choose_lt each
    refine ⟨_, (List.range len).map P, rfl, some ⟨b, off, none⟩, cap, by simp, by simp; omega, fun i p hp => ?_⟩
    have hil : i < len := by have := (List.getElem?_eq_some_iff.1 hp).1; simpa using this
    rw [List.getElem?_map, List.getElem?_range hil] at hp
    simp only [Option.map_some, Option.some.injEq] at hp
    subst hp
    obtain ⟨s, hb, h⟩ := hP i hil
    exact ⟨b, off, s, rfl, hb, h⟩
end
end Go.Proofs.Ytemjgllijlaejaa
