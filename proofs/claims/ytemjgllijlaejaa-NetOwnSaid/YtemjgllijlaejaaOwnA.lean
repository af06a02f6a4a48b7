/- Own of the document's lists: plain facts of rows; what an append leaves, by whether there was room. -/
import Derived.Test.YtemjgllijlaejaaRefA
namespace Go.Proofs.Ytemjgllijlaejaa
open Go.RowKit

section
variable {P : Program} {w : World} {base : Nat} {t ty e : TypeId} {i : TypeInfo} {z : Value} {size bytes : Nat} {n : Nat} {xs : List Value}
/-- An append to a row that is there: in its place, or in a new one, and then nothing has turned. -/
theorem ap_two (ht : P.underlying t = some (.slice e)) (hi : P.info? e = some i) (hz : i.zero = some z) (hsize : i.size = size) (hby : i.bytes = bytes) (hzs : z.cells.size = size) (hsz : 0 < size)
    (g cap : Nat) (hown : w.ownsRow base e size (.slice (some ⟨g, 0, none⟩) n cap) n xs) (a : Addr) (m c : Nat) (news : List Value) (hl : news.length = m * size) (hnews : ∀ j u, news[j]? = some u → w.cell? (a.add j) = some u) (h1 : ∀ u ∈ news, u.oneCell' = true)
    (h63 : n + m ≤ maxLen) (hbytes : (n + m) * bytes ≤ 140737488355328) (hbase : base ≤ w.heap.size) (consts : Array Bool) :
    ∃ v' w', (builtin .append #[t, t] ty consts #[.slice (some ⟨g, 0, none⟩) n cap, .slice (some a) m c]).run P w = .ok (.value v') w' ∧
      ∃ h cap', v' = .slice (some ⟨h, 0, none⟩) (n + m) cap' ∧ w'.ownsRow base e size v' (n + m) (xs ++ news) ∧ ((h = g ∧ Fr (fun k => k = g) w w') ∨ (h = w.heap.size ∧ Fr (fun _ => False) w w')) := by
  obtain ⟨v', w', hr, h2, h3, _, h5⟩ := run_append_own_at (P := P) w base t ty e i z size bytes ht hi hz hsize hby hzs hsz _ n xs hown a m c news hl hnews h1 h63 hbytes hbase
  refine ⟨v', w', by simp only [builtin, Sem.run_bind, hr, Result.andThen_ok, Sem.run_pure], ?_⟩
  subst hsize hby
  rcases own_form hown with ⟨h, _⟩ | ⟨g', cap', cur, he, _, hg, hnc, hcm, hcs, htake⟩
  · cases h
  · injection he with he1 _ he2
    injection he1 with he1
    injection he1 with he1
    subst he1 he2
    by_cases hroom : n + m ≤ cap
    · have hfit : n * i.size + news.length ≤ cur.size := by rw [hl, hcs, ← Nat.add_mul]; exact Nat.mul_le_mul_right _ hroom
      have hq := run_append_room (P := P) w t ty e i ht hi g n cap cur hg a m c news hl hnews h1 hroom hfit
      rw [hq] at hr
      injection hr with hr1 hr2
      subst hr1
      exact ⟨g, cap, rfl, h2, .inl ⟨rfl, Fr.grown (Fr.refl _ w) h3 (fun k hk _ => by simpa [Value.ownBlock, eq_comm] using hk)⟩⟩
    · have holds : ∀ j u, xs[j]? = some u → w.cell? ((⟨g, 0, none⟩ : Addr).add j) = some u := hown.cells (g := g) rfl
      have hsmall : n + m ≤ 9223372036854775807 := by simp only [maxLen] at h63; omega
      have hq := run_append_grow (P := P) w t ty e i z ht hi hz ⟨g, 0, none⟩ n cap xs hown.1 holds a m c news hl hnews (by omega) (by omega) (growslice_fits (by omega) hbytes)
      rw [hq] at hr
      injection hr with hr1 hr2
      subst hr1
      subst hr2
      exact ⟨_, _, rfl, h2, .inr ⟨rfl, ((Fr.refl _ w).drew).alloc _⟩⟩
end

/-- A row of bytes: its block, its length, its room. -/
structure Rw where
  g : Nat
  n : Nat
  c : Nat
def Rw.v (r : Rw) : Value := .slice (some ⟨r.g, 0, none⟩) r.n r.c
/-- What is written into the i-th row at k; what is put behind it. -/
def fz (i k : Nat) : Value := .int .u8 ((i : Int) * 31 + (k : Int) % 7)
def tz (i k : Nat) : Value := .int .u8 (200 + (i : Int) * 5 + (k : Int))
def fill (i n : Nat) : List Value := (List.range n).map (fz i)
def tail4 (i n : Nat) : List Value := (List.range n).map (tz i)
theorem fill_len (i n : Nat) : (fill i n).length = n := by simp [fill]
theorem tail_len (i n : Nat) : (tail4 i n).length = n := by simp [tail4]
theorem fill_next (i n : Nat) : fill i (n + 1) = fill i n ++ [fz i n] := by simp [fill, List.range_succ]
theorem tail_next (i n : Nat) : tail4 i (n + 1) = tail4 i n ++ [tz i n] := by simp [tail4, List.range_succ]
theorem fill_get (i n k : Nat) (h : k < n) : (fill i n)[k]? = some (fz i k) := by simp [fill, List.getElem?_range h]
theorem tail_get (i n k : Nat) (h : k < n) : (tail4 i n)[k]? = some (tz i k) := by simp [tail4, List.getElem?_range h]
theorem take_put (cs : Array Value) (k : Nat) (v : Value) (h : k < cs.size) : (cs.setIfInBounds k v).toList.take (k + 1) = cs.toList.take k ++ [v] := by
  apply List.ext_getElem?
  intro j
  rw [List.getElem?_take]
  by_cases hj : j < k
  · rw [List.getElem?_append_left (by simp; omega), if_pos (by omega), List.getElem?_take, if_pos hj]
    simp [show ¬ k = j by omega]
  · by_cases hk : j = k
    · subst hk
      rw [if_pos (by omega), List.getElem?_append_right (by simp; omega)]
      have : j - (List.take j cs.toList).length = 0 := by simp; omega
      rw [this]
      simp [h]
    · rw [if_neg (by omega), List.getElem?_append_right (by simp; omega), List.getElem?_eq_none]
      simp; omega

/-- The rows R, each in a block of its own that was there at W. -/
structure Rows5 (W : World) (R : List Rw) : Prop where
  lt : ∀ (i : Nat) (r : Rw), R[i]? = some r → r.g < W.heap.size ∧ r.n ≤ r.c ∧ r.c ≤ maxLen ∧ r.n ≤ 1200
  ne : ∀ (i j : Nat) (r s : Rw), R[i]? = some r → R[j]? = some s → i ≠ j → r.g ≠ s.g
/-- One of the rows' blocks. -/
def InR (R : List Rw) (k : Nat) : Prop := ∃ (i : Nat) (r : Rw), R[i]? = some r ∧ k = r.g

/-- Rows that are written over: those ahead of i whole, the i-th one up to k. -/
def Over (R : List Rw) (i k : Nat) (w : World) : Prop :=
  ∀ (j : Nat) (r : Rw), R[j]? = some r → ∃ cur, Blk w r.g 5 cur ∧ cur.size = r.c ∧ (j < i → cur.toList.take r.n = fill j r.n) ∧ (j = i → cur.toList.take k = fill j k)
theorem Over.put {W w : World} {R : List Rw} (hR : Rows5 W R) {i k : Nat} {r : Rw} (hr : R[i]? = some r) (hk : k < r.n) (h : Over R i k w) : Over R i (k + 1) (w.setCell ⟨r.g, k, none⟩ (fz i k)) := by
  intro j s hs
  obtain ⟨cur, h1, h2, h3, h4⟩ := h j s hs
  by_cases hj : j = i
  · subst hj
    rw [hr] at hs
    injection hs with hs
    subst hs
    have hn := (hR.lt j r hr).2.1
    refine ⟨_, h1.set_ k (fz j k), by simp [h2], fun h => absurd h (by omega), fun _ => ?_⟩
    rw [take_put _ _ _ (by omega), h4 rfl, fill_next]
  · exact ⟨cur, h1.far (p := ⟨r.g, k, none⟩) (hR.ne j i s r hs hr hj) _, h2, h3, fun h => absurd h hj⟩
theorem Over.next {w : World} {R : List Rw} {i : Nat} {r : Rw} (hr : R[i]? = some r) (h : Over R i r.n w) : Over R (i + 1) 0 w := by
  intro j s hs
  obtain ⟨cur, h1, h2, h3, h4⟩ := h j s hs
  refine ⟨cur, h1, h2, fun hj => ?_, fun _ => by simp [fill]⟩
  by_cases hji : j = i
  · subst hji
    rw [hr] at hs
    injection hs with hs
    subst hs
    exact h4 rfl
  · exact h3 (by omega)
theorem Over.cell {W w : World} {R : List Rw} (hR : Rows5 W R) {i k j : Nat} {r : Rw} (hr : R[i]? = some r) (h : Over R i k w) (hj : j < r.n) : ∃ u, w.cell? ⟨r.g, j, none⟩ = some u := by
  obtain ⟨cur, h1, h2, _⟩ := h i r hr
  have hn := (hR.lt i r hr).2.1
  exact ⟨cur[j]'(by omega), h1.cell j (by rw [Array.getElem?_eq_getElem (by omega)])⟩
theorem Over.frozen {w : World} {R : List Rw} {i k j : Nat} {r : Rw} (hr : R[i]? = some r) (h : Over R i k w) : w.frozen? ⟨r.g, j, none⟩ = false := by
  obtain ⟨cur, h1, _⟩ := h i r hr
  exact h1.frozen j
theorem Over.own {W w : World} {R : List Rw} (hR : Rows5 W R) {i k : Nat} (h : Over R i k w) {j : Nat} {r : Rw} (hr : R[j]? = some r) (hj : j < i) : w.ownsRow 0 5 1 r.v r.n (fill j r.n) := by
  obtain ⟨cur, h1, h2, h3, h4⟩ := h j r hr
  obtain ⟨_, hn, hm, _⟩ := hR.lt j r hr
  exact own_mk h1 hn hm (by rw [h2, Nat.mul_one]) (by rw [Nat.mul_one]; exact h3 hj)

/-- The rows at the second loop: those from lo on are as they were; each row's bytes read as they were written; the longer ones are ys. -/
structure Long (W : World) (R : List Rw) (lo : Nat) (ys : List Value) (w : World) : Prop where
  rd : ∀ (j : Nat) (r : Rw), R[j]? = some r → ∀ k u, (fill j r.n)[k]? = some u → w.cell? ⟨r.g, k, none⟩ = some u
  ow : ∀ (j : Nat) (r : Rw), R[j]? = some r → lo ≤ j → w.ownsRow 0 5 1 r.v r.n (fill j r.n)
  ys : ∀ (j : Nat) (r : Rw) (y : Value), R[j]? = some r → ys[j]? = some y → ∃ h cap, y = .slice (some ⟨h, 0, none⟩) (r.n + 4) cap ∧ w.ownsRow 0 5 1 y (r.n + 4) (fill j r.n ++ tail4 j 4) ∧ (h = r.g ∨ W.heap.size ≤ h)
  sz : W.heap.size ≤ w.heap.size
  bk : ∀ (j : Nat) (r : Rw), R[j]? = some r → ∃ cur, Blk w r.g 5 cur
/-- The row that is being made longer: its block g, k bytes more. -/
structure Grow (W : World) (r : Rw) (i : Nat) (ys : List Value) (h cap k : Nat) (w : World) : Prop where
  ow : w.ownsRow 0 5 1 (.slice (some ⟨h, 0, none⟩) (r.n + k) cap) (r.n + k) (fill i r.n ++ tail4 i k)
  at' : h = r.g ∨ W.heap.size ≤ h
  ne : ∀ y ∈ ys, y.ownBlock ≠ some h
theorem own_blk5 {w : World} {v : Value} {n : Nat} {xs : List Value} {X : Nat → Prop} (h : w.ownsRow 0 5 1 v n xs) (hx : ∀ k cur, X k → ¬ Blk w k 5 cur) : ∀ k, v.ownBlock = some k → ¬ X k := by
  intro k hk hX
  rcases own_form h with ⟨rfl, _⟩ | ⟨g, cap, cur, rfl, _, hg, _⟩
  · cases hk
  · simp only [Value.ownBlock, Option.some.injEq] at hk
    subst hk
    exact hx _ cur hX hg
/-- Where no row of bytes turns, all stays. -/
theorem Long.far {W w w' : World} {R : List Rw} {lo : Nat} {ys : List Value} {X : Nat → Prop} (h : Long W R lo ys w) (hf : Fr X w w') (hx : ∀ k cur, X k → ¬ Blk w k 5 cur) : Long W R lo ys w' := by
  refine ⟨fun j r hr k u hu => hf.cell (h.rd j r hr k u hu) (fun hX => ?_), fun j r hr hl => own_fr (h.ow j r hr hl) hf (own_blk5 (h.ow j r hr hl) hx), fun j r y hr hy => ?_, Nat.le_trans h.sz hf.size, fun j r hr => ?_⟩
  · obtain ⟨cur, hc⟩ := h.bk j r hr
    exact hx _ cur hX hc
  · obtain ⟨g, cap, h1, h2, h3⟩ := h.ys j r y hr hy
    exact ⟨g, cap, h1, own_fr h2 hf (own_blk5 h2 hx), h3⟩
  · obtain ⟨cur, hc⟩ := h.bk j r hr
    exact ⟨cur, hc.fr hf (fun hX => hx _ cur hX hc)⟩
theorem Long.up {W w w' : World} {R : List Rw} {lo : Nat} {ys : List Value} (h : Long W R lo ys w) (hf : Fr (fun _ => False) w w') : Long W R lo ys w' := h.far hf fun _ _ h => h.elim
theorem Long.start {W w : World} {R : List Rw} (hR : Rows5 W R) (h : Over R R.length 0 w) (hs : W.heap.size ≤ w.heap.size) : Long W R 0 [] w := by
  refine ⟨fun j r hr k u hu => own_cell (h.own hR hr (List.getElem?_eq_some_iff.1 hr).1) k hu, fun j r hr _ => h.own hR hr (List.getElem?_eq_some_iff.1 hr).1, fun j r y hr hy => by simp at hy, hs, fun j r hr => ?_⟩
  obtain ⟨cur, h1, _⟩ := h j r hr
  exact ⟨cur, h1⟩
theorem Grow.up {W w w' : World} {r : Rw} {i : Nat} {ys : List Value} {h cap k : Nat} (hg : Grow W r i ys h cap k w) (hf : Fr (fun _ => False) w w') : Grow W r i ys h cap k w' :=
  ⟨own_fr hg.ow hf (fun _ _ h => h), hg.at', hg.ne⟩
theorem Long.open {W w : World} {R : List Rw} (hR : Rows5 W R) {i : Nat} {ys : List Value} (h : Long W R i ys w) (hy : ys.length = i) {r : Rw} (hr : R[i]? = some r) : Long W R (i + 1) ys w ∧ Grow W r i ys r.g r.c 0 w := by
  refine ⟨⟨h.rd, fun j s hs hl => h.ow j s hs (by omega), h.ys, h.sz, h.bk⟩, ⟨by simpa [tail4, Rw.v] using h.ow i r hr (Nat.le_refl _), .inl rfl, fun y hm => ?_⟩⟩
  obtain ⟨j, hj⟩ := List.getElem?_of_mem hm
  have hjl : j < i := by have := (List.getElem?_eq_some_iff.1 hj).1; omega
  have hil := (List.getElem?_eq_some_iff.1 hr).1
  have hs : R[j]? = some R[j] := List.getElem?_eq_getElem (by omega)
  obtain ⟨g, cap, rfl, _, h3⟩ := h.ys j _ y hs hj
  have h4 := hR.ne j i _ r hs hr (by omega)
  have h5 := (hR.lt i r hr).1
  simp only [Value.ownBlock, ne_eq, Option.some.injEq]
  rcases h3 with h3 | h3 <;> omega
/-- One byte more. -/
theorem Grow.put {W w w' : World} {R : List Rw} (hR : Rows5 W R) {i : Nat} {ys : List Value} (hy : ys.length = i) {r : Rw} (hr : R[i]? = some r) {h cap k h' cap' : Nat} (hL : Long W R (i + 1) ys w) (hG : Grow W r i ys h cap k w)
    (hown : w'.ownsRow 0 5 1 (.slice (some ⟨h', 0, none⟩) (r.n + k + 1) cap') (r.n + k + 1) (fill i r.n ++ tail4 i k ++ [tz i k])) (hf : (h' = h ∧ Fr (fun k => k = h) w w') ∨ (h' = w.heap.size ∧ Fr (fun _ => False) w w')) :
    Long W R (i + 1) ys w' ∧ Grow W r i ys h' cap' (k + 1) w' := by
  have hown' : w'.ownsRow 0 5 1 (.slice (some ⟨h', 0, none⟩) (r.n + (k + 1)) cap') (r.n + (k + 1)) (fill i r.n ++ tail4 i (k + 1)) := by
    rw [tail_next, ← List.append_assoc]; exact hown
  rcases hf with ⟨rfl, hf⟩ | ⟨rfl, hf⟩
  · have hh : ∀ (j : Nat) (s : Rw), R[j]? = some s → j ≠ i → s.g ≠ h' := fun j s hs hj => by
      have h4 := hR.ne j i s r hs hr hj
      have h5 := (hR.lt j s hs).1
      rcases hG.at' with h3 | h3 <;> omega
    refine ⟨⟨fun j s hs k' u hu => ?_, fun j s hs hl => own_fr (hL.ow j s hs hl) hf (fun k' hk' => by
        simp only [Rw.v, Value.ownBlock, Option.some.injEq] at hk'
        have := hh j s hs (by omega); omega), fun j s y hs hy' => ?_, Nat.le_trans hL.sz hf.size, fun j s hs => ?_⟩, ⟨hown', hG.at', hG.ne⟩⟩
    · by_cases hj : j = i
      · subst hj
        rw [hr] at hs
        injection hs with hs
        subst hs
        by_cases hg : h' = r.g
        · subst hg
          refine own_cell hown' k' ?_
          have hk := (List.getElem?_eq_some_iff.1 hu).1
          rw [List.getElem?_append_left hk]; exact hu
        · exact hf.cell (hL.rd j r hr k' u hu) (fun h => hg h.symm)
      · exact hf.cell (hL.rd j s hs k' u hu) (hh j s hs hj)
    · obtain ⟨g, cap, h1, h2, h3⟩ := hL.ys j s y hs hy'
      refine ⟨g, cap, h1, own_fr h2 hf (fun k' hk' h => ?_), h3⟩
      subst h
      exact hG.ne y (List.mem_of_getElem? hy') hk'
    · by_cases hj : j = i
      · subst hj
        rw [hr] at hs
        injection hs with hs
        subst hs
        by_cases hg : h' = r.g
        · subst hg
          rcases own_form hown' with ⟨h1, _⟩ | ⟨g, cap, cur, h1, _, hb, _⟩
          · cases h1
          · injection h1 with h1
            injection h1 with h1
            injection h1 with h1
            subst h1
            exact ⟨cur, hb⟩
        · obtain ⟨cur, hc⟩ := hL.bk j r hr
          exact ⟨cur, hc.fr hf (fun h => hg h.symm)⟩
      · obtain ⟨cur, hc⟩ := hL.bk j s hs
        exact ⟨cur, hc.fr hf (hh j s hs hj)⟩
  · refine ⟨hL.up hf, ⟨hown', .inr hL.sz, fun y hm hyb => ?_⟩⟩
    obtain ⟨j, hj⟩ := List.getElem?_of_mem hm
    have hjl : j < i := by have := (List.getElem?_eq_some_iff.1 hj).1; omega
    have hil := (List.getElem?_eq_some_iff.1 hr).1
    have hs : R[j]? = some R[j] := List.getElem?_eq_getElem (by omega)
    obtain ⟨g, cap, h1, h2, h3⟩ := hL.ys j _ y hs hj
    have := own_lt h2 hyb
    omega
theorem Long.close {W w : World} {R : List Rw} {i : Nat} {ys : List Value} (hy : ys.length = i) {r : Rw} (hr : R[i]? = some r) {h cap : Nat} (hL : Long W R (i + 1) ys w) (hG : Grow W r i ys h cap 4 w) :
    Long W R (i + 1) (ys ++ [.slice (some ⟨h, 0, none⟩) (r.n + 4) cap]) w := by
  refine ⟨hL.rd, hL.ow, fun j s y hs hy' => ?_, hL.sz, hL.bk⟩
  by_cases hj : j < i
  · rw [List.getElem?_append_left (by omega)] at hy'
    exact hL.ys j s y hs hy'
  · have hjl := (List.getElem?_eq_some_iff.1 hy').1
    simp at hjl
    obtain rfl : j = i := by omega
    rw [hr] at hs
    injection hs with hs
    subst hs
    rw [List.getElem?_append_right (by omega)] at hy'
    simp [hy] at hy'
    subst hy'
    exact ⟨h, cap, rfl, hG.ow, hG.at'⟩
end Go.Proofs.Ytemjgllijlaejaa
