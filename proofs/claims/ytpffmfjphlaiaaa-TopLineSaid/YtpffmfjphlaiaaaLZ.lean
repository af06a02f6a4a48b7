/- The line: what comes in the end; the rows of the law. -/
import Derived.Test.YtpffmfjphlaiaaaLR
import Derived.Test.YtpffmfjphlaiaaaLX
import Derived.Test.YtpffmfjphlaiaaaLU
namespace Go.Proofs.Ytpffmfjphlaiaaa
open Go.RowKit

theorem comes_end (Len now a0 N : Nat) (S0 : List Nat) (due : Prop) (a sb rb mb nb : Nat) (st : Ls) (bd : Nat → List UInt8) (win span : Nat) (col : Nat → Nat) (p : Bool × Nat) (rest : List (Bool × Nat)) (g c : Nat) (w : World) (h : LnR w a sb rb mb nb { st with L := rest } bd win span col)
    (hr : Rnd Len now a0 S0 due N st) (hL : st.L = p :: rest) (hbl : ∀ k, (bd k).length ≤ 1000) (hN : N < 1000000) (ho : w.ownsRow 0 5 1 (.slice (some ⟨g, 0, none⟩) (pkOf bd p).b.length c) (pkOf bd p).b.length (u8s (pkOf bd p).b)) :
    Calls Try.prog 11 #[.pointer (some ⟨a, 0, none⟩), .agg #[.int .i64 (pkOf bd p).f, .int .i64 (pkOf bd p).t, .slice (some ⟨g, 0, none⟩) (pkOf bd p).b.length c], .bool false] w fun e w' => e = .returned (.tuple #[]) ∧
      ∃ st' col', LnR w' a sb rb mb nb st' bd win span col' ∧ Rnd Len now a0 S0 due N st' ∧ weight st'.L < weight st.L ∧ Tr w w' col col' := by
  have hc : (pkOf bd p).b.length ≤ c := by
    rcases own_form ho with ⟨h, -⟩ | ⟨g', cap', cur, h, -, -, h1, -⟩
    · cases h
    · injection h with _ _ h; omega
  have hb := Byt.of_own ho
  have hg := hr.good
  have hlen := hg.len
  have hgl := hg.gl
  have hag := hg.ag
  have hsum := hg.sum
  have hn := hr.n
  obtain ⟨k, q⟩ := p
  cases k with
  | true =>
    have hq : q ≤ st.got := hg.ack q (by rw [hL]; simp)
    refine (comes_ack a sb rb mb nb _ bd win span col g 0 c q w h hb hc (by omega) (by show q ≤ st.acked + st.S.length; omega) (by show st.acked < 1000000; omega)).mono ?_
    rintro e w' ⟨rfl, col', h1, h2⟩
    exact ⟨rfl, _, col', h1, hr.ack hL, weight_ack hL, h2⟩
  | false =>
    obtain ⟨hq1, hq2⟩ := hg.dat q (by rw [hL]; simp)
    refine (comes_data a sb rb mb nb _ bd win span col g 0 c q w h hb hc (by omega) (by omega) (hbl q) hg.life (by show st.got < 100; omega) (by show st.n < 1000000; omega) (fun k hk => (hg.ear k hk).2.1)).mono ?_
    rintro e w' ⟨rfl, r, col', hall, hfin, h1, h2⟩
    exact ⟨rfl, _, col', h1, hr.data hL hall hfin, weight_data hL, h2⟩

theorem RowL.take {w : World} {A : Option Addr} {c n : Nat} {ps : List (List UInt8)} (h : RowL w (.slice A ps.length c) ps) (hn : n ≤ ps.length) : RowL w (.slice A n c) (ps.take n) := by
  obtain ⟨A', c', h1, h2, h3⟩ := h
  injection h1 with h1 _ h4
  subst h1 h4
  refine ⟨A, c, by rw [List.length_take, Nat.min_eq_left hn], ⟨by rw [List.length_take]; omega, h2.2⟩, fun i y hy => ?_⟩
  rw [List.getElem?_take] at hy
  split at hy
  · exact h3 i y hy
  · cases hy
/-- The bodies of the pieces. -/
def bdOf (l : List (List UInt8)) (k : Nat) : List UInt8 := (l[k - 1]?).getD []
theorem bdOf_at {l : List (List UInt8)} {i : Nat} {y : List UInt8} (h : l[i]? = some y) : bdOf l (i + 1) = y := by simp [bdOf, h]
theorem bdOf_len {l : List (List UInt8)} (h : ∀ (i : Nat) (y : List UInt8), l[i]? = some y → y.length ≤ 1000) (k : Nat) : (bdOf l k).length ≤ 1000 := by
  unfold bdOf
  cases hk : l[k - 1]? with
  | none => simp
  | some y => exact h _ y hk
theorem bdOf_rows {l : List (List UInt8)} {n : Nat} (h : n ≤ l.length) : (List.range n).map (fun i => bdOf l (i + 1)) = l.take n := by
  refine List.ext_getElem? fun i => ?_
  rw [List.getElem?_map, List.getElem?_take]
  by_cases hi : i < n
  · rw [List.getElem?_range hi, if_pos hi]
    obtain ⟨y, hy⟩ : ∃ y, l[i]? = some y := ⟨_, List.getElem?_eq_getElem (by omega)⟩
    rw [hy]
    simp [bdOf_at hy]
  · rw [if_neg hi, List.getElem?_eq_none (by simp; omega)]
    rfl
theorem Good.start {n : Nat} (h : n ≤ 40) : Good n (st0 n) :=
  ⟨h, Nat.le_refl _, Nat.zero_le _, by simp [st0], fun q hq => by simp [st0] at hq, fun q hq => by simp [st0] at hq, fun k hk => by simp [st0] at hk, .inl rfl, by simp [st0]⟩
theorem Fin.start {n span : Nat} {st : Ls} (hg : Good n st) (h1 : st.now ≤ 300) (h2 : st.n ≤ 300) : Fin n span 0 { st with apart := false } :=
  ⟨hg.sub (L' := st.L) (ap := false) (fun _ h => h) hg.room, rfl, by show st.now ≤ 400 + 0; omega, by show st.n ≤ 400 + 512 * 0; omega, fun h => by omega⟩
theorem Tr.below {w w' : World} {col : Nat → Nat} (h : Tr w w' (fun _ => 0) col) : Below w.heap.size w w' := (h.fr.mono (fun _ _ e => absurd rfl e)).below (Nat.le_refl _)
theorem RowL.tr {w w' : World} {v : Value} {ps : List (List UInt8)} {col : Nat → Nat} (h : RowL w v ps) (ht : Tr w w' (fun _ => 0) col) : RowL w' v ps := h.up ht.fr (fun _ _ e => e rfl)
theorem MovL.tr {w w' : World} {v : Value} {ps : List Mov} {col : Nat → Nat} (h : MovL w v ps) (ht : Tr w w' (fun _ => 0) col) : MovL w' v ps := h.up ht.fr (fun _ _ e => e rfl)
end Go.Proofs.Ytpffmfjphlaiaaa
