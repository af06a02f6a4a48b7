/- The laws' own: acts as they come in; three, long, at. -/
import Derived.Test.YtkpfgoalohbfeaaBe
namespace Go.Proofs.Ytkpfgoalohbfeaa
open Go.RowKit Go.ChangeShapes Go.WideShapes Go.Deep

/-- An act. -/
structure Ac where
  k : Int
  a : Int
  v : List UInt8
structure AcAt (w : World) (b o : Nat) (x : Ac) (vs : Value) (X : Nat → Prop) : Prop where
  c0 : w.cell? ⟨b, o, none⟩ = some (.int .i64 x.k)
  c1 : w.cell? ⟨b, o + 1, none⟩ = some (.int .i64 x.a)
  c2 : w.cell? ⟨b, o + 2, none⟩ = some vs
  own : Byt w vs x.v
  ol : x.v.length ≤ maxLen
  ox : ∀ g, vs.ownBlock = some g → x.v ≠ [] → ¬ X g
  a0 : -9223372036854775808 ≤ x.a
  a1 : x.a ≤ 9223372036854775807
  bx : ¬ X b
def AcL (w : World) (v : Value) (xs : List Ac) (X : Nat → Prop) : Prop :=
  ∃ A c, v = .slice A xs.length c ∧ xs.length ≤ maxLen ∧ ∀ i x, xs[i]? = some x → ∃ b off vs, A = some ⟨b, off, none⟩ ∧ AcAt w b (off + i * 3) x vs X
theorem AcAt.up {w w' : World} {b o : Nat} {x : Ac} {vs : Value} {X Y : Nat → Prop} (h : AcAt w b o x vs X) (hf : Fr Y w w') (hx : ∀ k, Y k → X k) : AcAt w' b o x vs X :=
  ⟨hf.cell h.c0 (fun e => h.bx (hx _ e)), hf.cell h.c1 (fun e => h.bx (hx _ e)), hf.cell h.c2 (fun e => h.bx (hx _ e)),
    h.own.fr' hf (fun k hk hn e => h.ox k hk hn (hx k e)), h.ol, h.ox, h.a0, h.a1, h.bx⟩
theorem AcL.up {w w' : World} {v : Value} {xs : List Ac} {X Y : Nat → Prop} (h : AcL w v xs X) (hf : Fr Y w w') (hx : ∀ k, Y k → X k) : AcL w' v xs X := by
  obtain ⟨A, c, h1, h2, h3⟩ := h
  refine ⟨A, c, h1, h2, fun i x hi => ?_⟩
  obtain ⟨b, off, vs, h4, h5⟩ := h3 i x hi
  exact ⟨b, off, vs, h4, h5.up hf hx⟩
instance : Inhabited Ac := ⟨⟨0, 0, []⟩⟩
section
variable {H : Type} {enc : TypeId × Value → H} {w : World} {base : Nat} {spare : Nat → Bool} {held : Bool}
set_option maxRecDepth 100000 in
theorem trod_ac {fuel : Nat} {cs : List Value} {x : DataW H × List MemPlace} (h : DataW.trod enc Try.prog w base spare held fuel 34 cs = some x) :
    ∃ (x : Ac) (vs : Value), cs = [.int .i64 x.k, .int .i64 x.a, vs] ∧ Byt w vs x.v ∧ x.v.length ≤ maxLen ∧ (∀ k, vs.ownBlock = some k → x.v ≠ [] → k < w.heap.size) ∧ -9223372036854775808 ≤ x.a ∧ x.a ≤ 9223372036854775807 := by
  obtain ⟨xs, n, _, hx, hlen, hxl, hf⟩ := DataW.trod_struct Try.underlying34 h
  have hl5 : cs.length = 3 := hlen.trans (by kernel_rfl)
  match cs, hl5 with
  | [c0, c1, c2], _ =>
    have g0 := hf 0 _ rfl
    have g1 := hf 1 _ rfl
    have g2 := hf 2 _ rfl
    have l5 : xs.length = 3 := hxl.trans rfl
    match xs, l5 with
    | [y0, y1, y2], _ =>
      have e0 : DataW.trod enc Try.prog w base spare held n 3 [c0] = some y0 := g0
      have e1 : DataW.trod enc Try.prog w base spare held n 3 [c1] = some y1 := g1
      have e2 : DataW.trod enc Try.prog w base spare held n 31 [c2] = some y2 := g2
      obtain ⟨k, hc0, _, wf0⟩ := DataW.trod_int Try.underlying3 e0
      obtain ⟨a, hc1, _, wf1⟩ := DataW.trod_int Try.underlying3 e1
      obtain ⟨s, bs, hc2, hb, hbl, hlt⟩ := trod_byt e2
      obtain ⟨h4, h5⟩ := i64_of wf1
      injection hc0 with hc0 _
      injection hc1 with hc1 _
      injection hc2 with hc2 _
      subst hc0 hc1 hc2
      exact ⟨⟨k, a, bs⟩, c2, rfl, hb, hbl, hlt, h4, h5⟩
theorem trod_acl {fuel : Nat} {cs : List Value} {x : DataW H × List MemPlace} (h : DataW.trod enc Try.prog w base spare held fuel 25 cs = some x) :
    ∃ v xs, cs = [v] ∧ AcL w v xs (fun k => w.heap.size ≤ k) := by
  have hc5 : Try.prog.cellsOf 34 = 3 := by kernel_rfl
  rcases open_slice Try.underlying25 h with ⟨rfl, _⟩ | ⟨a, len, cap, m, n, D, Pl, rfl, _, hl, hm, hmm, _, hi⟩
  · exact ⟨_, [], rfl, none, 0, rfl, by simp, fun i p hp => by simp at hp⟩
  · have hle : len ≤ m := by rw [hmm]; split <;> omega
    rw [hc5] at hi
    rcases Nat.eq_zero_or_pos len with h0 | h0
    · subst h0
      exact ⟨_, [], rfl, some a, cap, rfl, by simp, fun i p hp => by simp at hp⟩
    have ha : ∃ b off, a = ⟨b, off, none⟩ := by
      obtain ⟨cs', hc, _⟩ := hi 0 (by omega)
      obtain ⟨b, off, he, _⟩ := cells_at hc (by omega)
      simp [Addr.add] at he
      exact ⟨b, off, he⟩
    obtain ⟨b, off, rfl⟩ := ha
    have each : ∀ i, i < len → ∃ x : Ac, ∃ vs, AcAt w b (off + i * 3) x vs (fun k => w.heap.size ≤ k) := by
      intro i hil
      obtain ⟨cs', hc, ht⟩ := hi i (by omega)
      obtain ⟨x, vs, rfl, hb, hbl, hlt, hx0, hx1⟩ := trod_ac ht
      obtain ⟨b', off', he, hbl', hcell⟩ := cells_at hc (by omega)
      rw [Go.WideShapes.add_plain] at he
      injection he with he1 he2
      subst he1 he2
      exact ⟨x, vs, hcell 0 (by omega), hcell 1 (by omega), hcell 2 (by omega), hb, hbl, fun g hg hn => by have := hlt g hg hn; omega, hx0, hx1, by omega⟩
    obtain ⟨P, hP⟩ := choose_lt each
    refine ⟨_, (List.range len).map P, rfl, some ⟨b, off, none⟩, cap, by simp, by simp; omega, fun i p hp => ?_⟩
    have hil : i < len := by have := (List.getElem?_eq_some_iff.1 hp).1; simpa using this
    rw [List.getElem?_map, List.getElem?_range hil] at hp
    simp only [Option.map_some, Option.some.injEq] at hp
    subst hp
    obtain ⟨vs, h⟩ := hP i hil
    exact ⟨b, off, vs, rfl, h⟩
end

/-- No act that is looked at is long. -/
def AShort (l : List Ac) (j : Nat) : Prop := ∀ i x, i < j → i < 200 → l[i]? = some x → x.v.length ≤ 1000
def ALongPost (l : List Ac) (w : World) (e : Ending) (w' : World) : Prop := ∃ b, e = .returned (.bool b) ∧ w = w' ∧ (b = false → AShort l l.length)
set_option maxRecDepth 100000 in
set_option maxHeartbeats 4000000 in
theorem along_any (v : Value) (l : List Ac) (X : Nat → Prop) (w : World) (hv : AcL w v l X) :
    Calls Try.prog 11 #[v] w (ALongPost l w) := by
  obtain ⟨A, c, rfl, hlm, hl⟩ := hv
  unfold maxLen at hlm
  have HL := Lib.hid hl
  clear hl
  go_enter Try.func11, Try.ntmps11
  go_wp2_with fail
  go_loopg [3] l.length (fun g x3 wr => ∃ (j : Nat), j + g = l.length ∧ x3 = .int .i64 j ∧ AShort l j ∧ SameW w wr)
  case atStart => exact ⟨0, by omega, rfl, fun i x hi => by omega, rfl⟩
  case round =>
    obtain ⟨j, hj, rfl, hsh, rfl⟩ := hrel
    have HJ := Lib.hid hj
    have HSh := Lib.hid hsh
    have hj' : j ≤ l.length := by omega
    clear hj hsh
    by_cases hlt : j < l.length ∧ j < 200
    · obtain ⟨hlt, hlt2⟩ := hlt
      obtain ⟨x, hx⟩ : ∃ x, l[j]? = some x := ⟨_, List.getElem?_eq_getElem hlt⟩
      obtain ⟨b, off, vs, rfl, hat⟩ := HL.out j x hx
      have hown := hat.own
      have hol := hat.ol
      unfold maxLen at hol
      obtain ⟨Ao, co, rfl, -, -⟩ := hown
      have hlt3 : (j : Int) < 200 := by omega
      have HX := Lib.hid hx
      have q2 := hat.c2
      clear hat hx
      by_cases hb : (1000 : Int) < (x.v.length : Int)
      · go_wp2_with fail
        go_ret
        exact ⟨true, rfl, rfl, fun h => by cases h⟩
      · go_wp2_with fail
        go_roundg (l.length - (j + 1))
        case measure => have := HJ.out; omega
        case rel =>
          refine ⟨j + 1, by have := HJ.out; omega, by go_num, fun i y hi h2 hy => ?_, rfl⟩
          by_cases hij : i = j
          · subst hij
            have h3 := HX.out
            rw [hy] at h3
            injection h3 with h3
            subst h3; omega
          · exact HSh.out i y (by omega) h2 hy
    · have hcs : (j < l.length ∧ ¬ (j : Int) < 200) ∨ ¬ (j < l.length) := by omega
      have HC := Lib.hid hlt
      clear hlt
      rcases hcs with ⟨ha, hb⟩ | ha
      all_goals
        go_wp2_with fail
        go_ret
        exact ⟨false, rfl, rfl, fun _ i x hi h2 hx => HSh.out i x (by have := HC.out; omega) h2 hx⟩
set_option maxHeartbeats 1000000 in
theorem three_any (w : World) : Calls Try.prog 28 #[] w fun e w' => e = .returned (Q3.v (.slice none 0 0)) ∧ Fr (fun _ => False) w w' := by
  obtain ⟨w1, hw1⟩ : ∃ w1, w1 = w.alloc (.cells #[.int .i64 0, .int .i64 0, .int .i64 0, .int .i64 0, .slice none 0 0] 24) := ⟨_, rfl⟩
  have hf1 : Fr (fun _ => False) w w1 := by rw [hw1]; exact (Fr.refl _ w).alloc _
  have hB : Blk w1 w.heap.size 24 #[.int .i64 0, .int .i64 0, .int .i64 0, .int .i64 0, .slice none 0 0] := by rw [hw1]; exact Blk.new _ _ _
  have HW := Lib.hid hw1
  clear hw1
  have b0 := hB.cell 0 rfl
  have b1 := hB.cell 1 rfl
  have b2 := hB.cell 2 rfl
  have b3 := hB.cell 3 rfl
  have b4 := hB.cell 4 rfl
  have b5 := hB.frozen
  go_enter Try.func28, Try.ntmps28
  go_upto_region 1 with (fail)
  rw [← HW.out]
  go_wp2_with fail
  have hX : Fr (fun x => x = w.heap.size) w1 (((((w1.setCell ⟨w.heap.size, 0, none⟩ (.int .i64 1)).setCell ⟨w.heap.size, 1, none⟩ (.int .i64 3)).setCell ⟨w.heap.size, 2, none⟩ (.int .i64 2)).setCell ⟨w.heap.size, 3, none⟩ (.int .i64 2)).setCell ⟨w.heap.size, 4, none⟩ (.slice none 0 0)) :=
    ((((Fr.set1 w1 w.heap.size 0 _).setCell (p := ⟨w.heap.size, 1, none⟩) (fun _ => rfl) _).setCell (p := ⟨w.heap.size, 2, none⟩) (fun _ => rfl) _).setCell (p := ⟨w.heap.size, 3, none⟩) (fun _ => rfl) _).setCell (p := ⟨w.heap.size, 4, none⟩) (fun _ => rfl) _
  have hW := ((((hB.set_ 0 (.int .i64 1)).set_ 1 (.int .i64 3)).set_ 2 (.int .i64 2)).set_ 3 (.int .i64 2)).set_ 4 (.slice none 0 0)
  refine bodyPost_ret (results_cell_row rfl _ _ w.heap.size 24 #[.int .i64 1, .int .i64 3, .int .i64 2, .int .i64 2, .slice none 0 0] (0, 0) _ rfl ?_ Try.underlying24 rfl (by kernel_rfl)) rfl ⟨rfl, ?_⟩
  · show Blk _ w.heap.size 24 _
    simpa using hW
  · exact hf1.trans hX (fun x hx h => by rcases h with h | h; exact h; omega)
/-- A place among n. -/
def atI (a : Int) (n : Nat) : Nat := if n = 0 then 0 else (a % 18446744073709551616).toNat % n
theorem atI_lt {a : Int} {n : Nat} (h : 0 < n) : atI a n < n := by
  unfold atI
  rw [if_neg (by omega)]
  exact Nat.mod_lt _ h
set_option maxHeartbeats 1000000 in
theorem at_any (a : Int) (n : Nat) (hn : n ≤ 1000) (w : World) :
    Calls Try.prog 16 #[.int .i64 a, .int .i64 (n : Int)] w fun e w' => e = .returned (.int .i64 (atI a n : Int)) ∧ w = w' := by
  go_enter Try.func16, Try.ntmps16
  by_cases h0 : n = 0
  · subst h0
    have hA : (atI a 0 : Int) = 0 := by unfold atI; rfl
    have HA := Lib.hid hA
    clear hA
    go_wp2_with fail
    go_ret
    exact ⟨by rw [HA.out]; rfl, rfl⟩
  · have h1 : ¬ (n : Int) < 1 := by omega
    have hA : (atI a n : Int) = (a % 18446744073709551616) % (n : Int) := by
      unfold atI
      rw [if_neg h0]
      have : (((a % 18446744073709551616).toNat : Nat) : Int) = a % 18446744073709551616 := Int.toNat_of_nonneg (Int.emod_nonneg _ (by omega))
      rw [Int.natCast_emod, this]
    have hb := atI_lt (a := a) (n := n) (by omega)
    have hw : wrap64 ((IntKind.u64.wrap a).tmod (n : Int)) = (atI a n : Int) := by
      have hu : IntKind.u64.wrap a = a % 18446744073709551616 := by simp [IntKind.wrap, IntKind.bits, IntKind.signed]
      have hp : 0 ≤ a % 18446744073709551616 := Int.emod_nonneg _ (by omega)
      rw [hu, Int.tmod_eq_emod_of_nonneg hp, hA]
      have h2 : 0 ≤ a % 18446744073709551616 % (n : Int) := Int.emod_nonneg _ (by omega)
      have h3 : a % 18446744073709551616 % (n : Int) < (n : Int) := Int.emod_lt_of_pos _ (by omega)
      unfold wrap64
      omega
    have HA := Lib.hid hw
    clear hA hw
    go_wp2_with fail
    go_ret
    exact ⟨by rw [← HA.out]; rfl, rfl⟩
end Go.Proofs.Ytkpfgoalohbfeaa
