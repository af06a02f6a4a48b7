/- Votes, acts, systems as they come in. -/
import Derived.Test.YtliljjlegofmkaaPC
import Derived.OpenShut
import Derived.Deep.Slices
import Derived.Deep.Fields
namespace Go.Proofs.Ytliljjlegofmkaa
open Go.RowKit Go.ChangeShapes Go.WideShapes Go.Deep
theorem u32_of {n : Int} (h : (Lit.int .u32 n).wf = true) : 0 ≤ n ∧ n < 4294967296 := by
  simp [Lit.wf, IntKind.min, IntKind.max, IntKind.signed, IntKind.bits] at h; exact ⟨by omega, by omega⟩
theorem u64_of {n : Int} (h : (Lit.int .u64 n).wf = true) : 0 ≤ n ∧ n < 18446744073709551616 := by
  simp [Lit.wf, IntKind.min, IntKind.max, IntKind.signed, IntKind.bits] at h; exact ⟨by omega, by omega⟩
theorem i64_of {n : Int} (h : (Lit.int .i64 n).wf = true) : -9223372036854775808 ≤ n ∧ n ≤ 9223372036854775807 := by
  simp [Lit.wf, IntKind.min, IntKind.max, IntKind.signed, IntKind.bits] at h; exact ⟨by omega, by omega⟩
/-- An act: its kind, its node, its slot, the value, the votes. -/
structure At where
  k : Int
  n : Int
  s : Nat
  o : List UInt8
  v : List Vt
/-- An act's cells at a place. -/
structure ActAt (w : World) (b o : Nat) (x : At) (os vs : Value) (X : Nat → Prop) : Prop where
  c0 : w.cell? ⟨b, o, none⟩ = some (.int .i64 x.k)
  c1 : w.cell? ⟨b, o + 1, none⟩ = some (.int .i64 x.n)
  c2 : w.cell? ⟨b, o + 2, none⟩ = some (.int .u64 x.s)
  c3 : w.cell? ⟨b, o + 3, none⟩ = some os
  c4 : w.cell? ⟨b, o + 4, none⟩ = some vs
  own : Byt w os x.o
  ol : x.o.length ≤ maxLen
  ox : ∀ g, os.ownBlock = some g → x.o ≠ [] → ¬ X g
  vot : VtL w vs x.v X
  s64 : x.s < 18446744073709551616
  bx : ¬ X b
def AtL (w : World) (v : Value) (xs : List At) (X : Nat → Prop) : Prop :=
  ∃ A c, v = .slice A xs.length c ∧ xs.length ≤ maxLen ∧ ∀ i x, xs[i]? = some x → ∃ b off os vs, A = some ⟨b, off, none⟩ ∧ ActAt w b (off + i * 5) x os vs X
theorem ActAt.up {w w' : World} {b o : Nat} {x : At} {os vs : Value} {X Y : Nat → Prop} (h : ActAt w b o x os vs X) (hf : Fr Y w w') (hx : ∀ k, Y k → X k) : ActAt w' b o x os vs X :=
  ⟨hf.cell h.c0 (fun e => h.bx (hx _ e)), hf.cell h.c1 (fun e => h.bx (hx _ e)), hf.cell h.c2 (fun e => h.bx (hx _ e)), hf.cell h.c3 (fun e => h.bx (hx _ e)), hf.cell h.c4 (fun e => h.bx (hx _ e)),
    h.own.fr' hf (fun k hk hn e => h.ox k hk hn (hx k e)), h.ol, h.ox, h.vot.up hf hx, h.s64, h.bx⟩

section
variable {H : Type} {enc : TypeId × Value → H} {w : World} {base : Nat} {spare : Nat → Bool} {held : Bool}
theorem trod_byt {fuel : Nat} {cs : List Value} {x : DataW H × List MemPlace} (h : DataW.trod enc Try.prog w base spare held fuel 35 cs = some x) :
    ∃ s bs, cs = [s] ∧ Byt w s bs ∧ bs.length ≤ maxLen ∧ ∀ k, s.ownBlock = some k → bs ≠ [] → k < w.heap.size := by
  rcases open_ints Try.underlying35 Try.underlying5 (by kernel_rfl) h with ⟨rfl, _⟩ | ⟨a, len, cap, zs, rfl, _, hl, hm, hz, _, hcell, hw⟩
  · exact ⟨_, [], rfl, ⟨none, 0, rfl, fun _ => rfl, fun h => absurd rfl h⟩, by simp, fun k hk => by simp [Value.ownBlock] at hk⟩
  · have hzl : len ≤ zs.length := by rw [hz]; split <;> omega
    have hlen : ((zs.take len).map fun z => UInt8.ofNat z.toNat).length = len := by simp; omega
    have hget : ∀ i u, ((zs.take len).map fun z => UInt8.ofNat z.toNat)[i]? = some u → i < len ∧ (u.toNat : Int) = zs.getD i 0 := by
      intro i u hu
      have hi : i < len := by rw [← hlen]; exact (List.getElem?_eq_some_iff.1 hu).1
      refine ⟨hi, ?_⟩
      rw [List.getElem?_map, List.getElem?_take, if_pos hi, List.getElem?_eq_getElem (by omega)] at hu
      simp only [Option.map_some, Option.some.injEq] at hu
      rw [List.getD_eq_getElem?_getD, List.getElem?_eq_getElem (by omega)]
      have := hw _ (List.getElem_mem (l := zs) (n := i) (by omega))
      simp [Lit.wf, IntKind.min, IntKind.max, IntKind.signed, IntKind.bits] at this
      rw [← hu]
      simp only [Option.getD_some, UInt8.toNat_ofNat']
      omega
    refine ⟨_, (zs.take len).map fun z => UInt8.ofNat z.toNat, rfl, ⟨some a, cap, by rw [hlen], (fun h => by cases h), fun hne => ?_⟩, by rw [hlen]; omega, fun k hk hne => ?_⟩
    · have hpos : 0 < len := by
        rcases Nat.eq_zero_or_pos len with h0 | h0
        · subst h0; simp at hne
        · exact h0
      obtain ⟨b, off, rfl, hc⟩ := ints_at hcell (by omega)
      exact ⟨b, off, rfl, fun i u hu => by rw [hc i (by have := (hget i u hu).1; omega), (hget i u hu).2]⟩
    · have hpos : 0 < len := by
        rcases Nat.eq_zero_or_pos len with h0 | h0
        · subst h0; simp at hne
        · exact h0
      obtain ⟨b, off, rfl, hc⟩ := ints_at hcell (by omega)
      simp only [Value.ownBlock] at hk
      injection hk with hk
      subst hk
      exact World.block_lt_of_cell? w _ (hc 0 (by omega))
theorem trod_ints {fuel : Nat} {cs : List Value} {x : DataW H × List MemPlace} (h : DataW.trod enc Try.prog w base spare held fuel 22 cs = some x) :
    ∃ s l, cs = [s] ∧ Ints w s l ∧ l.length ≤ maxLen ∧ ∀ c, s = .slice none 0 c → c = 0 := by
  rcases open_ints Try.underlying22 Try.underlying3 (by kernel_rfl) h with ⟨rfl, _⟩ | ⟨a, len, cap, zs, rfl, _, hl, hm, hz, _, hcell, hw⟩
  · exact ⟨_, [], rfl, ⟨none, 0, rfl, fun h => absurd rfl h⟩, by simp, fun c h => by injection h with _ _ h; exact h.symm⟩
  · have hzl : len ≤ zs.length := by rw [hz]; split <;> omega
    have hlen : (zs.take len).length = len := by simp; omega
    refine ⟨_, zs.take len, rfl, ⟨some a, cap, by rw [hlen], fun hne => ?_⟩, by rw [hlen]; omega, fun c h => by injection h with h; cases h⟩
    have hpos : 0 < len := by
      rcases Nat.eq_zero_or_pos len with h0 | h0
      · subst h0; simp at hne
      · exact h0
    obtain ⟨b, off, rfl, hc⟩ := ints_at hcell (by omega)
    refine ⟨b, off, rfl, fun i z hzi => ?_⟩
    have hi : i < len := by have := (List.getElem?_eq_some_iff.1 hzi).1; omega
    rw [List.getElem?_take, if_pos hi] at hzi
    rw [hc i (by omega), List.getD_eq_getElem?_getD, hzi]
    rfl
set_option maxRecDepth 100000 in
theorem trod_qu {fuel : Nat} {cs : List Value} {x : DataW H × List MemPlace} (h : DataW.trod enc Try.prog w base spare held fuel 24 cs = some x) :
    ∃ (q : Qu) (s : Value), cs = [.int .i64 q.k, .int .i64 q.n, .int .i64 q.o, .int .i64 q.t, s] ∧ Ints w s q.s ∧ q.s.length ≤ maxLen ∧ ∀ c, s = .slice none 0 c → c = 0 := by
  obtain ⟨xs, n, _, hx, hlen, hxl, hf⟩ := DataW.trod_struct Try.underlying24 h
  have hl5 : cs.length = 5 := hlen.trans (by kernel_rfl)
  match cs, hl5 with
  | [c0, c1, c2, c3, c4], _ =>
    have g0 := hf 0 _ rfl
    have g1 := hf 1 _ rfl
    have g2 := hf 2 _ rfl
    have g3 := hf 3 _ rfl
    have g4 := hf 4 _ rfl
    have l5 : xs.length = 5 := hxl.trans rfl
    match xs, l5 with
    | [y0, y1, y2, y3, y4], _ =>
      have e0 : DataW.trod enc Try.prog w base spare held n 3 [c0] = some y0 := g0
      have e1 : DataW.trod enc Try.prog w base spare held n 3 [c1] = some y1 := g1
      have e2 : DataW.trod enc Try.prog w base spare held n 3 [c2] = some y2 := g2
      have e3 : DataW.trod enc Try.prog w base spare held n 3 [c3] = some y3 := g3
      have e4 : DataW.trod enc Try.prog w base spare held n 22 [c4] = some y4 := g4
      obtain ⟨k, hc0, _, wf0⟩ := DataW.trod_int Try.underlying3 e0
      obtain ⟨n', hc1, _, wf1⟩ := DataW.trod_int Try.underlying3 e1
      obtain ⟨o, hc2, _, wf2⟩ := DataW.trod_int Try.underlying3 e2
      obtain ⟨t, hc3, _, wf3⟩ := DataW.trod_int Try.underlying3 e3
      obtain ⟨s, l, hc4, hb, hbl, hnil⟩ := trod_ints e4
      injection hc0 with hc0 _
      injection hc1 with hc1 _
      injection hc2 with hc2 _
      injection hc3 with hc3 _
      injection hc4 with hc4 _
      subst hc0 hc1 hc2 hc3 hc4
      exact ⟨⟨k, n', o, t, l⟩, c4, rfl, hb, hbl, hnil⟩
set_option maxRecDepth 100000 in
theorem trod_bal {fuel : Nat} {cs : List Value} {x : DataW H × List MemPlace} (h : DataW.trod enc Try.prog w base spare held fuel 33 cs = some x) :
    ∃ (n : Nat) (d : Int), cs = [.int .u64 n, .int .i64 d] ∧ n < 18446744073709551616 ∧ -9223372036854775808 ≤ d ∧ d ≤ 9223372036854775807 := by
  obtain ⟨xs, n, _, hx, hlen, hxl, hf⟩ := DataW.trod_struct Try.underlying33 h
  have hl2 : cs.length = 2 := hlen.trans (by kernel_rfl)
  match cs, hl2 with
  | [c0, c1], _ =>
    have g0 := hf 0 _ rfl
    have g1 := hf 1 _ rfl
    have l2 : xs.length = 2 := hxl.trans rfl
    match xs, l2 with
    | [y0, y1], _ =>
      have e0 : DataW.trod enc Try.prog w base spare held n 31 [c0] = some y0 := g0
      have e1 : DataW.trod enc Try.prog w base spare held n 3 [c1] = some y1 := g1
      obtain ⟨a, hc0, _, wf0⟩ := DataW.trod_int Try.underlying31 e0
      obtain ⟨d, hc1, _, wf1⟩ := DataW.trod_int Try.underlying3 e1
      obtain ⟨h1, h2⟩ := u64_of wf0
      obtain ⟨h3, h4⟩ := i64_of wf1
      obtain ⟨a, rfl⟩ := Int.eq_ofNat_of_zero_le h1
      injection hc0 with hc0 _
      injection hc1 with hc1 _
      subst hc0 hc1
      exact ⟨a, d, rfl, by omega, h3, h4⟩
set_option maxRecDepth 100000 in
theorem trod_vt {fuel : Nat} {cs : List Value} {x : DataW H × List MemPlace} (h : DataW.trod enc Try.prog w base spare held fuel 45 cs = some x) :
    ∃ (p : Vt) (s : Value), cs = [.int .u64 p.s, .int .u64 p.n, .int .i64 p.d, s] ∧ Byt w s p.v ∧ p.v.length ≤ maxLen ∧ p.s < 18446744073709551616 ∧ p.n < 18446744073709551616 ∧ -9223372036854775808 ≤ p.d ∧ p.d ≤ 9223372036854775807 ∧ ∀ k, s.ownBlock = some k → p.v ≠ [] → k < w.heap.size := by
  obtain ⟨xs, n, _, hx, hlen, hxl, hf⟩ := DataW.trod_struct Try.underlying45 h
  have hl4 : cs.length = 4 := hlen.trans (by kernel_rfl)
  match cs, hl4 with
  | [c0, c1, c2, c3], _ =>
    have g0 := hf 0 _ rfl
    have g1 := hf 1 _ rfl
    have g2 := hf 2 _ rfl
    have l3 : xs.length = 3 := hxl.trans rfl
    match xs, l3 with
    | [y0, y1, y2], _ =>
      have e0 : DataW.trod enc Try.prog w base spare held n 31 [c0] = some y0 := g0
      have e1 : DataW.trod enc Try.prog w base spare held n 33 [c1, c2] = some y1 := g1
      have e2 : DataW.trod enc Try.prog w base spare held n 35 [c3] = some y2 := g2
      obtain ⟨a, hc0, _, wf0⟩ := DataW.trod_int Try.underlying31 e0
      obtain ⟨bn, d, hc1, h1, h2, h3⟩ := trod_bal e1
      obtain ⟨s, bs, hc2, hb, hbl, hlt⟩ := trod_byt e2
      obtain ⟨h4, h5⟩ := u64_of wf0
      obtain ⟨a, rfl⟩ := Int.eq_ofNat_of_zero_le h4
      injection hc0 with hc0 _
      injection hc1 with hc1 hc1'
      injection hc1' with hc1' _
      injection hc2 with hc2 _
      subst hc0 hc1 hc1' hc2
      exact ⟨⟨a, bn, d, bs⟩, c3, rfl, hb, hbl, by show a < _; omega, h1, h2, h3, hlt⟩
theorem cells_at {a : Addr} {n : Nat} {cs : List Value} (h : w.cells? base a n = some cs) (hn : 0 < n) : ∃ b off, a = ⟨b, off, none⟩ ∧ b < w.heap.size ∧ ∀ j, j < n → w.cell? ⟨b, off + j, none⟩ = cs[j]? := by
  obtain ⟨_, hl, hc⟩ := World.cells?_some h
  obtain ⟨b, off, spot⟩ := a
  have h0 := hc 0 hn
  rw [List.getElem?_eq_getElem (by omega)] at h0
  have hspot : spot = none := by simpa [Addr.add] using World.cell?_spot h0
  subst hspot
  refine ⟨b, off, rfl, World.block_lt_of_cell? w _ h0, fun j hj => ?_⟩
  rw [← Go.WideShapes.add_plain]
  exact hc j hj
instance : Inhabited Vt := ⟨⟨0, 0, 0, []⟩⟩
instance : Inhabited At := ⟨⟨0, 0, 0, [], []⟩⟩
theorem trod_vts {fuel : Nat} {cs : List Value} {x : DataW H × List MemPlace} (h : DataW.trod enc Try.prog w base spare held fuel 29 cs = some x) :
    ∃ v ps, cs = [v] ∧ VtL w v ps (fun k => w.heap.size ≤ k) := by
  have hc4 : Try.prog.cellsOf 45 = 4 := by kernel_rfl
  rcases open_slice Try.underlying29 h with ⟨rfl, _⟩ | ⟨a, len, cap, m, n, D, Pl, rfl, _, hl, hm, hmm, _, hi⟩
  · exact ⟨_, [], rfl, VtL.nil _ _⟩
  · have hle : len ≤ m := by rw [hmm]; split <;> omega
    rw [hc4] at hi
    rcases Nat.eq_zero_or_pos len with h0 | h0
    · subst h0
      exact ⟨_, [], rfl, ⟨some a, cap, rfl, fun i p hp => by simp at hp⟩, by simp⟩
    have ha : ∃ b off, a = ⟨b, off, none⟩ := by
      obtain ⟨cs', hc, _⟩ := hi 0 (by omega)
      obtain ⟨b, off, he, _⟩ := cells_at hc (by omega)
      simp [Addr.add] at he
      exact ⟨b, off, he⟩
    obtain ⟨b, off, rfl⟩ := ha
    have each : ∀ i, i < len → ∃ p : Vt, ∃ s, b < w.heap.size ∧ VtAt w b (off + i * 4) p s ∧ ∀ k, s.ownBlock = some k → p.v ≠ [] → k < w.heap.size := by
      intro i hil
      obtain ⟨cs', hc, ht⟩ := hi i (by omega)
      obtain ⟨p, s, rfl, hb, hbl, h1, h2, h3, h4, h5⟩ := trod_vt ht
      obtain ⟨b', off', he, hbl', hcell⟩ := cells_at hc (by omega)
      rw [Go.WideShapes.add_plain] at he
      injection he with he1 he2
      subst he1 he2
      exact ⟨p, s, hbl', ⟨hcell 0 (by omega), hcell 1 (by omega), hcell 2 (by omega), hcell 3 (by omega), hb, hbl, h1, h2, h3, h4⟩, h5⟩
    obtain ⟨P, hP⟩ := choose_lt each
    refine ⟨_, (List.range len).map P, rfl, ⟨some ⟨b, off, none⟩, cap, by simp, fun i p hp => ?_⟩, by simp; omega⟩
    have hil : i < len := by have := (List.getElem?_eq_some_iff.1 hp).1; simpa using this
    rw [List.getElem?_map, List.getElem?_range hil] at hp
    simp only [Option.map_some, Option.some.injEq] at hp
    subst hp
    obtain ⟨s, hb, h, h5⟩ := hP i hil
    exact ⟨b, off, s, rfl, by omega, h, fun g hg hn => by have := h5 g hg hn; omega⟩
set_option maxRecDepth 100000 in
theorem trod_act {fuel : Nat} {cs : List Value} {x : DataW H × List MemPlace} (h : DataW.trod enc Try.prog w base spare held fuel 58 cs = some x) :
    ∃ (x : At) (os vs : Value), cs = [.int .i64 x.k, .int .i64 x.n, .int .u64 x.s, os, vs] ∧ Byt w os x.o ∧ x.o.length ≤ maxLen ∧ (∀ k, os.ownBlock = some k → x.o ≠ [] → k < w.heap.size) ∧ VtL w vs x.v (fun k => w.heap.size ≤ k) ∧ x.s < 18446744073709551616 := by
  obtain ⟨xs, n, _, hx, hlen, hxl, hf⟩ := DataW.trod_struct Try.underlying58 h
  have hl5 : cs.length = 5 := hlen.trans (by kernel_rfl)
  match cs, hl5 with
  | [c0, c1, c2, c3, c4], _ =>
    have g0 := hf 0 _ rfl
    have g1 := hf 1 _ rfl
    have g2 := hf 2 _ rfl
    have g3 := hf 3 _ rfl
    have g4 := hf 4 _ rfl
    have l5 : xs.length = 5 := hxl.trans rfl
    match xs, l5 with
    | [y0, y1, y2, y3, y4], _ =>
      have e0 : DataW.trod enc Try.prog w base spare held n 3 [c0] = some y0 := g0
      have e1 : DataW.trod enc Try.prog w base spare held n 3 [c1] = some y1 := g1
      have e2 : DataW.trod enc Try.prog w base spare held n 31 [c2] = some y2 := g2
      have e3 : DataW.trod enc Try.prog w base spare held n 35 [c3] = some y3 := g3
      have e4 : DataW.trod enc Try.prog w base spare held n 29 [c4] = some y4 := g4
      obtain ⟨k, hc0, _, wf0⟩ := DataW.trod_int Try.underlying3 e0
      obtain ⟨nd, hc1, _, wf1⟩ := DataW.trod_int Try.underlying3 e1
      obtain ⟨a, hc2, _, wf2⟩ := DataW.trod_int Try.underlying31 e2
      obtain ⟨s, bs, hc3, hb, hbl, hlt⟩ := trod_byt e3
      obtain ⟨v, ps, hc4, hv⟩ := trod_vts e4
      obtain ⟨h4, h5⟩ := u64_of wf2
      obtain ⟨a, rfl⟩ := Int.eq_ofNat_of_zero_le h4
      injection hc0 with hc0 _
      injection hc1 with hc1 _
      injection hc2 with hc2 _
      injection hc3 with hc3 _
      injection hc4 with hc4 _
      subst hc0 hc1 hc2 hc3 hc4
      exact ⟨⟨k, nd, a, bs, ps⟩, c3, c4, rfl, hb, hbl, hlt, hv, by show a < _; omega⟩
theorem trod_acts {fuel : Nat} {cs : List Value} {x : DataW H × List MemPlace} (h : DataW.trod enc Try.prog w base spare held fuel 54 cs = some x) :
    ∃ v xs, cs = [v] ∧ AtL w v xs (fun k => w.heap.size ≤ k) := by
  have hc5 : Try.prog.cellsOf 58 = 5 := by kernel_rfl
  rcases open_slice Try.underlying54 h with ⟨rfl, _⟩ | ⟨a, len, cap, m, n, D, Pl, rfl, _, hl, hm, hmm, _, hi⟩
  · exact ⟨_, [], rfl, none, 0, rfl, by simp, fun i p hp => by simp at hp⟩
  · have hle : len ≤ m := by rw [hmm]; split <;> omega
    rw [hc5] at hi
    rcases Nat.eq_zero_or_pos len with h0 | h0
    · subst h0
      exact ⟨_, [], rfl, some a, cap, rfl, by simp, fun i p hp => by simp at hp⟩
    have ha : ∃ b off, a = ⟨b, off, none⟩ := by
      obtain ⟨cs', hc, _⟩ := hi 0 (by omega)
      obtain ⟨b, off, he, _⟩ := cells_at hc (by omega)
      simp [Addr.add] at he
      exact ⟨b, off, he⟩
    obtain ⟨b, off, rfl⟩ := ha
    have each : ∀ i, i < len → ∃ x : At, ∃ os vs, ActAt w b (off + i * 5) x os vs (fun k => w.heap.size ≤ k) := by
      intro i hil
      obtain ⟨cs', hc, ht⟩ := hi i (by omega)
      obtain ⟨x, os, vs, rfl, hb, hbl, hlt, hv, hs⟩ := trod_act ht
      obtain ⟨b', off', he, hbl', hcell⟩ := cells_at hc (by omega)
      rw [Go.WideShapes.add_plain] at he
      injection he with he1 he2
      subst he1 he2
      exact ⟨x, os, vs, hcell 0 (by omega), hcell 1 (by omega), hcell 2 (by omega), hcell 3 (by omega), hcell 4 (by omega), hb, hbl, fun g hg hn => by have := hlt g hg hn; omega, hv, hs, by omega⟩
    obtain ⟨P, hP⟩ := choose_lt each
    refine ⟨_, (List.range len).map P, rfl, some ⟨b, off, none⟩, cap, by simp, by simp; omega, fun i p hp => ?_⟩
    have hil : i < len := by have := (List.getElem?_eq_some_iff.1 hp).1; simpa using this
    rw [List.getElem?_map, List.getElem?_range hil] at hp
    simp only [Option.map_some, Option.some.injEq] at hp
    subst hp
    obtain ⟨os, vs, h⟩ := hP i hil
    exact ⟨b, off, os, vs, rfl, h⟩
end
end Go.Proofs.Ytliljjlegofmkaa
