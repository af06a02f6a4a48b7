/- sess.Sender: tick. -/
import Derived.Test.YtpffmfjphlaiaaaLJ
namespace Go.Proofs.Ytpffmfjphlaiaaa
open Go.RowKit

/-- Is a piece due that went last at s? -/
def dueB (now span s : Nat) : Bool := !(decide (0 < s) && decide ((now : Int) - (s : Int) < (span : Int)))
def tkS (now span j : Nat) (S : List Nat) : List Nat := ((S.take j).map fun s => if dueB now span s then now else s) ++ S.drop j
def tkN (now span acked j : Nat) (S : List Nat) : List Nat := ((List.range j).filter fun i => dueB now span (S.getD i 0)).map fun i => acked + i + 1
theorem tkS_0 (now span : Nat) (S : List Nat) : tkS now span 0 S = S := by simp [tkS]
theorem tkN_0 (now span acked : Nat) (S : List Nat) : tkN now span acked 0 S = [] := by simp [tkN]
theorem tkS_len (now span j : Nat) (S : List Nat) : (tkS now span j S).length = S.length := by simp [tkS]; omega
theorem tkS_at (now span j : Nat) (S : List Nat) {s : Nat} (h : S[j]? = some s) : (tkS now span j S)[j]? = some s := by
  have hj := (List.getElem?_eq_some_iff.1 h).1
  unfold tkS
  rw [List.getElem?_append_right (by simp; omega)]
  simp only [List.length_map, List.length_take, List.getElem?_drop]
  rw [show j + (j - min j S.length) = j by omega]
  exact h
theorem tkS_succ (now span j : Nat) (S : List Nat) {s : Nat} (h : S[j]? = some s) : tkS now span (j + 1) S = if dueB now span s then (tkS now span j S).set j now else tkS now span j S := by
  have hj := (List.getElem?_eq_some_iff.1 h).1
  have hd : S.drop j = s :: S.drop (j + 1) := by
    have := (List.getElem?_eq_some_iff.1 h).2
    rw [← this, List.getElem_cons_drop]
  have hlen : ((S.take j).map fun s => if dueB now span s then now else s).length = j := by simp; omega
  unfold tkS
  rw [List.take_add_one, h, Option.toList_some, List.map_append]
  cases hdue : dueB now span s with
  | true =>
    simp only [List.map_cons, List.map_nil, hdue, ↓reduceIte]
    rw [List.set_append_right _ _ (by omega), hlen, Nat.sub_self, hd, List.set_cons_zero, List.append_assoc]
    rfl
  | false =>
    simp only [List.map_cons, List.map_nil, hdue, Bool.false_eq_true, ↓reduceIte]
    rw [hd, List.append_assoc]
    rfl
theorem tkN_succ (now span acked j : Nat) (S : List Nat) {s : Nat} (h : S[j]? = some s) : tkN now span acked (j + 1) S = if dueB now span s then tkN now span acked j S ++ [acked + j + 1] else tkN now span acked j S := by
  unfold tkN
  rw [List.range_succ, List.filter_append, List.map_append]
  cases hdue : dueB now span s <;> simp [hdue, List.getD, h]
theorem wr_seq {a j : Nat} (ha : a < 1000000) (hj : j < 100) : IntKind.u64.wrap (IntKind.u64.wrap ((a : Int) + IntKind.u64.wrap (j : Int)) + 1) = ((a + j + 1 : Nat) : Int) := by
  rw [IntKind.wrap_u64, IntKind.wrap_u64, IntKind.wrap_u64]; omega
theorem tkN_len (now span acked j : Nat) (S : List Nat) : (tkN now span acked j S).length ≤ j := by
  unfold tkN
  rw [List.length_map]
  exact Nat.le_trans (List.length_filter_le _ _) (by simp)
theorem tkS_le (now span j : Nat) (S : List Nat) (h : ∀ s ∈ S, s ≤ now) : ∀ s ∈ tkS now span j S, s ≤ now := by
  intro s hs
  unfold tkS at hs
  rw [List.mem_append, List.mem_map] at hs
  rcases hs with ⟨x, hx, rfl⟩ | hs
  · have := h x (List.mem_of_mem_take hx)
    split <;> omega
  · exact h s (List.mem_of_mem_drop hs)

def flat4 : List Nat → List Value → List Value
  | n :: ns, v :: vs => .int .u64 3 :: .int .u64 (n : Int) :: .bool false :: v :: flat4 ns vs
  | _, _ => []
theorem flat4_length : ∀ (S : List Nat) (vs : List Value), vs.length = S.length → (flat4 S vs).length = S.length * 4
  | [], [], _ => rfl
  | s :: S, v :: vs, h => by simp only [flat4, List.length_cons]; rw [flat4_length S vs (by simpa using h)]; omega
  | [], _ :: _, h => by simp at h
  | _ :: _, [], h => by simp at h
theorem flat4_append : ∀ (S : List Nat) (vs : List Value) (S' : List Nat) (vs' : List Value), vs.length = S.length → flat4 (S ++ S') (vs ++ vs') = flat4 S vs ++ flat4 S' vs'
  | [], [], _, _, _ => by simp [flat4]
  | s :: S, v :: vs, S', vs', h => by simp only [List.cons_append, flat4]; rw [flat4_append S vs S' vs' (by simpa using h)]
  | [], _ :: _, _, _, h => by simp at h
  | _ :: _, [], _, _, h => by simp at h
theorem flat4_get : ∀ (S : List Nat) (vs : List Value) (i n : Nat) (v : Value), S[i]? = some n → vs[i]? = some v →
    (flat4 S vs)[i * 4]? = some (.int .u64 3) ∧ (flat4 S vs)[i * 4 + 1]? = some (.int .u64 (n : Int)) ∧ (flat4 S vs)[i * 4 + 2]? = some (.bool false) ∧ (flat4 S vs)[i * 4 + 3]? = some v
  | [], _, _, _, _, h, _ => by simp at h
  | _ :: _, [], _, _, _, _, h => by simp at h
  | q :: S, u :: vs, 0, s, v, h, h' => by
    simp at h h'
    subst h h'
    simp [flat4]
  | q :: S, u :: vs, i + 1, s, v, h, h' => by
    have := flat4_get S vs i s v (by simpa using h) (by simpa using h')
    rw [show (i + 1) * 4 = i * 4 + 4 by omega]
    simpa [flat4] using this

/-- Segments that were told: their numbers; the bodies are bd's. -/
structure Segs (w : World) (base : Nat) (lv : Value) (Ns : List Nat) (vs : List Value) (bd : Nat → List UInt8) : Prop where
  len : vs.length = Ns.length
  row : w.ownsRow base 60 4 lv Ns.length (flat4 Ns vs)
  body : ∀ (i n : Nat) (v : Value), Ns[i]? = some n → vs[i]? = some v → Byt w v (bd n) ∧ ∀ k, v.ownBlock = some k → bd n ≠ [] → base ≤ k ∧ lv.ownBlock ≠ some k
theorem Segs.fr {w w' : World} {base : Nat} {lv : Value} {Ns : List Nat} {vs : List Value} {bd : Nat → List UInt8} {X : Nat → Prop} (h : Segs w base lv Ns vs bd) (hf : Fr X w w') (hx : ∀ k, X k → k < w.heap.size → k < base) : Segs w' base lv Ns vs bd :=
  ⟨h.len, own_fr h.row hf (fun k hk hX => by have := h.row.lt k hk; have := hx k hX this.2; omega), fun i n v hn hv => by
    obtain ⟨h1, h2⟩ := h.body i n v hn hv
    refine ⟨Byt.fr' h1 hf (fun k hk hnn hX => ?_), h2⟩
    obtain ⟨k2, hk2, hlt⟩ := h1.lt hnn
    rw [hk2] at hk
    injection hk with hk
    subst hk
    have := (h2 _ hk2 hnn).1
    have := hx _ hX hlt
    omega⟩

/-- The tick's loop. -/
structure TkI (w wr : World) (sb acked now j : Nat) (S : List Nat) (vs : List Value) (lv lvo : Value) (bd : Nat → List UInt8) (win span : Nat) (col : Nat → Nat) : Prop where
  blk : Blk wr sb 74 #[.int .u64 3, .int .i64 (win : Int), .int .i64 (span : Int), .int .u64 (acked : Int), .int .i64 (now : Int), lv]
  row : wr.ownsRow 0 79 2 lv S.length (flat2 (tkS now span j S) vs)
  seg : ∃ vso, Segs wr w.heap.size lvo (tkN now span acked j S) vso bd
  fr : Fr (fun k => col k = 1) w wr
theorem own_set {w w' : World} {base g n cap size : Nat} {e : TypeId} {xs : List Value} {i : Nat} {u : Value} (h : w.ownsRow base e size (.slice (some ⟨g, 0, none⟩) n cap) n xs) (hw' : w' = w.setCell ⟨g, i, none⟩ u) : w'.ownsRow base e size (.slice (some ⟨g, 0, none⟩) n cap) n (xs.set i u) := by
  subst hw'
  rcases own_form h with ⟨h, -⟩ | ⟨g', cap', cur, he, hb, hB, h1, h2, h3, h4⟩
  · cases h
  · injection he with e1 _ e3
    injection e1 with e1
    injection e1 with e1
    subst e1 e3
    have hset := hB.set_ i u
    refine ⟨by rw [List.length_set]; exact h.1, .inr ⟨g, cap, cur.setIfInBounds i u, rfl, hb, hset, h1, h2, by simpa using h3, ?_⟩⟩
    rw [Array.toList_setIfInBounds, List.take_set, h4]
theorem tick_fin {w wr w1 w2 w4 : World} {sb acked now j g c g2 cap2 gg lc' s : Nat} {S : List Nat} {vs : List Value} {lvo : Value} {bd : Nat → List UInt8} {win span : Nat} {col : Nat → Nat} {o : Obj} {vso : List Value}
    (hT : TkI w wr sb acked now j S vs (.slice (some ⟨g, 0, none⟩) S.length c) lvo bd win span col) (hsg : Segs wr w.heap.size lvo (tkN now span acked j S) vso bd) (hj : S[j]? = some s) (hdue : dueB now span s = true) (hlen : vs.length = S.length) (hcg : col g = 1) (hgw : g < w.heap.size)
    (hw1 : w1 = wr.setCell ⟨g, j * 2 + 1, none⟩ (.int .i64 (now : Int)))
    (hf2 : Fr (fun _ => False) w1 w2) (hg2 : w1.heap.size ≤ g2) (hg2l : g2 < w2.heap.size) (ho2 : w2.ownsRow 0 5 1 (.slice (some ⟨g2, 0, none⟩) (bd (acked + j + 1)).length cap2) (bd (acked + j + 1)).length (u8s (bd (acked + j + 1))))
    (hown4 : w4.ownsRow w.heap.size 60 4 (.slice (some ⟨gg, 0, none⟩) ((tkN now span acked j S).length + 1) lc') ((tkN now span acked j S).length + 1) (flat4 (tkN now span acked j S) vso ++ [.int .u64 3, .int .u64 ((acked + j + 1 : Nat) : Int), .bool false, .slice (some ⟨g2, 0, none⟩) (bd (acked + j + 1)).length cap2]))
    (hgrow : (w2.alloc o).grownBy w4 lvo.ownBlock) (hat : lvo.ownBlock = some gg ∨ gg = w2.heap.size + 1) :
    TkI w w4 sb acked now (j + 1) S vs (.slice (some ⟨g, 0, none⟩) S.length c) (.slice (some ⟨gg, 0, none⟩) ((tkN now span acked j S).length + 1) lc') bd win span col := by
  have hjl := (List.getElem?_eq_some_iff.1 hj).1
  have hf1 : Fr (fun k => k = g) wr w1 := by rw [hw1]; exact Fr.set1 _ _ _ _
  have hrl : ∀ k, lvo.ownBlock = some k → w.heap.size ≤ k ∧ k < wr.heap.size := fun k hk => hsg.row.lt k hk
  have hf4 := Fr.grown (X := fun k => lvo.ownBlock = some k) ((Fr.refl _ w2).alloc o) hgrow (fun k hk _ => hk)
  have hz := hT.fr.size
  have hz1 := hf1.size
  have hz2 := hf2.size
  have hz4 := hf4.size
  have hsbw : sb ≠ g := fun e => by
    subst e
    exact absurd rfl (own_blk_ne hT.row hT.blk (by decide) _ rfl)
  have hsbl : sb < wr.heap.size := hT.blk.lt
  have hggw : w.heap.size ≤ gg := (hown4.lt gg rfl).1
  have hsbo : lvo.ownBlock ≠ some sb := fun e => absurd rfl (own_blk_ne hsg.row hT.blk (by decide) _ e)
  have hgo : lvo.ownBlock ≠ some g := fun e => by have := (hrl _ e).1; omega
  refine ⟨((hT.blk.fr hf1 hsbw).fr hf2 (fun h => h)).fr hf4 hsbo, ?_, ⟨vso ++ [.slice (some ⟨g2, 0, none⟩) (bd (acked + j + 1)).length cap2], ?_⟩, ?_⟩
  · rw [tkS_succ now span j S hj, hdue, if_pos rfl, ← flat2_set _ _ _ _ (by rw [tkS_len]; exact hlen) (by rw [tkS_len]; exact hjl)]
    exact own_fr (own_fr (own_set hT.row hw1) hf2 (fun _ _ h => h)) hf4 (fun k hk e => by simp only [Value.ownBlock] at hk; injection hk with hk; subst hk; exact hgo e)
  · have hN := tkN_succ now span acked j S hj
    rw [hdue, if_pos rfl] at hN
    have hfl : flat4 (tkN now span acked j S) vso ++ [.int .u64 3, .int .u64 ((acked + j + 1 : Nat) : Int), .bool false, .slice (some ⟨g2, 0, none⟩) (bd (acked + j + 1)).length cap2] = flat4 (tkN now span acked (j + 1) S) (vso ++ [.slice (some ⟨g2, 0, none⟩) (bd (acked + j + 1)).length cap2]) := by
      rw [hN, flat4_append _ _ _ _ hsg.len]; rfl
    have hln : (tkN now span acked (j + 1) S).length = (tkN now span acked j S).length + 1 := by rw [hN]; simp
    rw [hfl, ← hln] at hown4
    rw [← hln]
    refine ⟨by simp [hsg.len, hln], hown4, fun i n v hn hv => ?_⟩
    rw [hN] at hn
    by_cases hi : i < vso.length
    · rw [List.getElem?_append_left hi] at hv
      rw [List.getElem?_append_left (by rw [← hsg.len]; exact hi)] at hn
      obtain ⟨h1, h2⟩ := hsg.body i n v hn hv
      refine ⟨Byt.fr' (Byt.fr' (Byt.fr' h1 hf1 (fun k hk hnn e => ?_)) hf2 (fun _ _ _ h => h)) hf4 (fun k hk hnn e => (h2 k hk hnn).2 e), fun k hk hnn => ⟨(h2 k hk hnn).1, fun e => ?_⟩⟩
      · have := (h2 k hk hnn).1; omega
      · simp only [Value.ownBlock] at e; injection e with e; subst e
        rcases hat with h | h
        · exact (h2 _ hk hnn).2 h
        · obtain ⟨k2, hk2, hlt⟩ := h1.lt hnn
          rw [hk2] at hk; injection hk with hk; omega
    · have hi2 : ¬ i < (tkN now span acked j S).length := by rw [← hsg.len]; exact hi
      rw [List.getElem?_append_right (by omega)] at hv hn
      have hi0 : i = vso.length := by
        have := (List.getElem?_eq_some_iff.1 hv).1
        simp at this; omega
      subst hi0
      rw [hsg.len] at hn
      simp at hv hn
      subst hv hn
      refine ⟨(Byt.of_own ho2).fr hf4 (fun k hk e => ?_), fun k hk hnn => ?_⟩
      · simp only [Value.ownBlock] at hk; injection hk with hk; have := (hrl _ e).2; omega
      · simp only [Value.ownBlock] at hk; injection hk with hk
        refine ⟨by omega, fun e => ?_⟩
        simp only [Value.ownBlock] at e; injection e with e
        rcases hat with h | h
        · have := (hrl _ h).2; omega
        · omega
  · have h24 : Fr (fun k => lvo.ownBlock = some k) w1 w4 := hf2.trans hf4 (fun k _ h => h.elim (fun h => h.elim) id)
    have h14 : Fr (fun k => col k = 1 ∨ w.heap.size ≤ k) wr w4 := hf1.trans h24 (fun k _ h => h.elim (fun e => .inl (by rw [e]; exact hcg)) (fun h => .inr (hrl k h).1))
    exact hT.fr.trans h14 (fun k hk h => h.elim id (fun h => h.elim id (fun h => by omega)))

theorem TkI.fr0 {w wr wx : World} {sb acked now j : Nat} {S : List Nat} {vs : List Value} {lv lvo : Value} {bd : Nat → List UInt8} {win span : Nat} {col : Nat → Nat} (h : TkI w wr sb acked now j S vs lv lvo bd win span col) (hf : Fr (fun _ => False) wr wx) : TkI w wx sb acked now j S vs lv lvo bd win span col := by
  obtain ⟨vso, hs⟩ := h.seg
  exact ⟨h.blk.fr hf (fun h => h), own_fr h.row hf (fun _ _ h => h), ⟨vso, hs.fr hf (fun _ h => h.elim)⟩, h.fr.tr hf.none_up⟩
theorem TkI.skip {w wr : World} {sb acked now j s : Nat} {S : List Nat} {vs : List Value} {lv lvo : Value} {bd : Nat → List UInt8} {win span : Nat} {col : Nat → Nat} (h : TkI w wr sb acked now j S vs lv lvo bd win span col) (hj : S[j]? = some s) (hd : dueB now span s = false) : TkI w wr sb acked now (j + 1) S vs lv lvo bd win span col := by
  have h1 := tkS_succ now span j S hj
  have h2 := tkN_succ now span acked j S hj
  rw [hd] at h1 h2
  simp only [Bool.false_eq_true, ↓reduceIte] at h1 h2
  exact ⟨h.blk, by rw [h1]; exact h.row, by rw [h2]; exact h.seg, h.fr⟩

theorem seginfo : (Try.prog.info? 60).map (fun i => (i.zero, i.size, i.bytes)) = some (some (.agg #[.int .u64 0, .int .u64 0, .bool false, .slice none 0 0]), 4, 48) := by kernel_rfl

set_option maxRecDepth 100000 in
set_option maxHeartbeats 8000000 in
theorem tick_any (sb acked now : Nat) (S : List Nat) (bd : Nat → List UInt8) (win span : Nat) (col : Nat → Nat) (w : World) (h : SndR w sb acked now S bd win span col) (hc : Cap w col) (hbl : ∀ k, (bd k).length ≤ 1000) (hnow : now < 1000000) (hack : acked < 1000000) :
    Calls Try.prog 22 #[.pointer (some ⟨sb, 0, none⟩)] w fun e w' => ∃ lvo vso, e = .returned lvo ∧ Segs w' w.heap.size lvo (tkN (now + 1) span acked (min S.length win) S) vso bd ∧ SndR w' sb acked (now + 1) (tkS (now + 1) span (min S.length win) S) bd win span col ∧ Recol 1 w w' col col := by
  obtain ⟨⟨lv, vs, hB, hP⟩, ho, hle, hro⟩ := h
  obtain ⟨i0, hi0, hz0, hz1, hz2⟩ := info_parts seginfo
  obtain ⟨A, c, rfl, hA, hcap, hcm⟩ := hP.form
  have hsb := hB.lt
  have b0 : w.cell? ⟨sb, 0, none⟩ = some (.int .u64 3) := hB.cell 0 rfl
  have b1 : w.cell? ⟨sb, 1, none⟩ = some (.int .i64 (win : Int)) := hB.cell 1 rfl
  have b2 : w.cell? ⟨sb, 2, none⟩ = some (.int .i64 (span : Int)) := hB.cell 2 rfl
  have b3 : w.cell? ⟨sb, 3, none⟩ = some (.int .u64 (acked : Int)) := hB.cell 3 rfl
  have b4 : w.cell? ⟨sb, 4, none⟩ = some (.int .i64 (now : Int)) := hB.cell 4 rfl
  have b5 : w.cell? ⟨sb, 5, none⟩ = some (.slice A S.length c) := hB.cell 5 rfl
  have bf := hB.frozen
  have hB1 := hB.set_ 4 (.int .i64 ((now : Int) + 1))
  have hf1 : Fr (fun k => k = sb) w (w.setCell ⟨sb, 4, none⟩ (.int .i64 ((now : Int) + 1))) := Fr.set1 _ _ _ _
  have HH := Lib.hid (And.intro hB (And.intro hP (And.intro ho (And.intro hle (And.intro hB1 hf1)))))
  have HI := Lib.hid (And.intro hi0 (And.intro hz0 (And.intro hz1 (And.intro hz2 (And.intro hbl hA)))))
  have n1 : (now : Int) + 1 < 1000001 := by omega
  clear hB hP ho hle hB1 hf1 hi0 hz0 hz1 hz2 hbl hA
  go_enter Try.func22, Try.ntmps22
  go_upto_region 5 with (fail)
  obtain ⟨w1, hw1⟩ : ∃ w1, w1 = w.setCell ⟨sb, 4, none⟩ (.int .i64 ((now : Int) + 1)) := ⟨_, rfl⟩
  obtain ⟨hB, hP, ho, hle, hB1, hf1⟩ := HH.out
  rw [← hw1] at hB1 hf1 ⊢
  clear hw1
  have p1 : w1.cell? ⟨sb, 1, none⟩ = some (.int .i64 (win : Int)) := hB1.cell 1 rfl
  have p5 : w1.cell? ⟨sb, 5, none⟩ = some (.slice A S.length c) := hB1.cell 5 rfl
  have H1 := Lib.hid (And.intro hB (And.intro hP (And.intro ho (And.intro hle (And.intro hB1 hf1)))))
  clear hB hP ho hle hB1 hf1 HH b0 b1 b2 b3 b4 b5 bf
  go_quiet (fail)
  obtain ⟨m, hm⟩ : ∃ m, m = min S.length win := ⟨_, rfl⟩
  have hmi : (if win < S.length then (win : Int) else (S.length : Int)) = (m : Int) := by split <;> omega
  have hmS : m ≤ S.length := by omega
  rw [hmi]
  obtain ⟨w2, hw2⟩ : ∃ w2, w2 = w1.drewN nq := ⟨_, rfl⟩
  obtain ⟨hB, hP, ho, hle, hB1, hf1⟩ := H1.out
  have hf2 : Fr (fun _ => False) w1 w2 := by rw [hw2]; exact (Fr.refl _ w1).drewN _
  rw [← hw2]
  have hT0 : TkI w w2 sb acked (now + 1) 0 S vs (.slice A S.length c) (.slice none 0 0) bd win span col := by
    have f1 : Fr (fun k => col k = 1) w w2 := (hf1.mono (fun k _ e => by rw [e]; exact ho)).tr hf2.none_up
    refine ⟨hB1.fr hf2 (fun h => h), ?_, ⟨[], ⟨rfl, ⟨by simp [tkN_0, flat4], .inl ⟨rfl, by simp [tkN_0]⟩⟩, by simp⟩⟩, f1⟩
    rw [tkS_0]
    exact own_fr (own_fr hP.row hf1 (fun k hk e => by subst e; exact absurd rfl (own_blk_ne hP.row hB (by decide) _ hk))) hf2 (fun _ _ h => h)
  have HT0 := Lib.hid (And.intro hT0 (And.intro hmi hm))
  have HSM := Lib.hid (And.intro hP (And.intro ho hle))
  clear hw2 hB hP ho hle hB1 hf1 hf2 hT0 p1 p5 hmi hm
  go_wp2_with fail
  go_loopg [3, 4, 5, 25] m (fun g x3 _ _ x25 wr => ∃ j : Nat, j + g = m ∧ x25 = .int .i64 j ∧ TkI w wr sb acked (now + 1) j S vs (.slice A S.length c) x3 bd win span col)
  case atStart => exact ⟨0, by omega, rfl, HT0.out.1⟩
  case round =>
    obtain ⟨j, hj, rfl, hT⟩ := hrel
    obtain ⟨w3, hw3⟩ : ∃ w3, w3 = wr := ⟨_, rfl⟩
    rw [← hw3] at hT ⊢
    clear hw3
    have HJ := Lib.hid hj
    by_cases hjm : j < m
    · obtain ⟨s, hs⟩ : ∃ s, S[j]? = some s := ⟨_, List.getElem?_eq_getElem (by omega)⟩
      obtain ⟨v, hv⟩ : ∃ v, vs[j]? = some v := ⟨_, List.getElem?_eq_getElem (by rw [HSM.out.1.len]; omega)⟩
      obtain ⟨g, rfl⟩ : ∃ g, A = some ⟨g, 0, none⟩ := by
        rcases HI.out.2.2.2.2.2 with ⟨-, h, -⟩ | h
        · rw [h] at hs; simp at hs
        · exact h
      obtain ⟨nw, hnw⟩ : ∃ nw, nw = now + 1 := ⟨_, rfl⟩
      rw [← hnw] at hT
      have hnwl : nw < 1000001 := by omega
      have hsnw : s ≤ nw := by have := HSM.out.2.2 s (List.mem_of_getElem? hs); omega
      have HNW := Lib.hid hnw
      have c0 : w3.cell? ⟨sb, 0, none⟩ = some (.int .u64 3) := hT.blk.cell 0 rfl
      have c2 : w3.cell? ⟨sb, 2, none⟩ = some (.int .i64 (span : Int)) := hT.blk.cell 2 rfl
      have c3 : w3.cell? ⟨sb, 3, none⟩ = some (.int .u64 (acked : Int)) := hT.blk.cell 3 rfl
      have c4 : w3.cell? ⟨sb, 4, none⟩ = some (.int .i64 (nw : Int)) := hT.blk.cell 4 rfl
      have c5 : w3.cell? ⟨sb, 5, none⟩ = some (.slice (some ⟨g, 0, none⟩) S.length c) := hT.blk.cell 5 rfl
      have hfg := flat2_get _ vs j s v (tkS_at nw span j S hs) hv
      have r0 := own_cell hT.row (j * 2) hfg.1
      have r1 := own_cell hT.row (j * 2 + 1) hfg.2
      have HT := Lib.hid (And.intro hT (And.intro hs hv))
      have hjS : j < S.length := by omega
      have hjS2 : (j : Int) < (S.length : Int) := by omega
      clear hj hT hs hv hfg hnw
      go_upto_region 9 with (fail)
      go_cut [54] (fun x54 wx => x54 = .bool (!(dueB nw span s)) ∧ ∃ nq, wx = w3.drewN nq)
      case first =>
        by_cases h0 : 0 < s
        · have h0' : (0 : Int) < (s : Int) := by omega
          have h0d : decide ((0 : Int) < (s : Int)) = true := by simp [h0]
          by_cases h1 : (nw : Int) - (s : Int) < (span : Int)
          · have h1d : decide ((nw : Int) - (s : Int) < (span : Int)) = true := by simp [h1]
            go_quiet (fail)
            go_wp2_with fail
            go_meet
            exact ⟨by unfold dueB; simp [h0, h1], _, rfl⟩
          · have h1d : decide ((nw : Int) - (s : Int) < (span : Int)) = false := by simpa using h1
            go_quiet (fail)
            go_wp2_with fail
            go_meet
            exact ⟨by unfold dueB; simp [h0, h1], _, rfl⟩
        · have h0d : decide ((0 : Int) < (s : Int)) = false := by simp; omega
          go_quiet (fail)
          go_wp2_with fail
          go_meet
          exact ⟨by unfold dueB; simp [h0], _, rfl⟩
      case rest =>
        obtain ⟨rfl, nq2, hw4⟩ := hcut
        obtain ⟨w4, hw4'⟩ : ∃ w4, w4 = wc := ⟨_, rfl⟩
        have hf34 : Fr (fun _ => False) w3 w4 := by rw [hw4', hw4]; exact (Fr.refl _ w3).drewN _
        rw [← hw4']
        clear hw4 hw4' c0 c2 c3 c4 c5 r0 r1
        have hT4 := HT.out.1.fr0 hf34
        obtain ⟨hs, hv⟩ := HT.out.2
        cases hd : dueB nw span s with
        | false =>
          have H4 := Lib.hid (hT4.skip hs hd)
          clear hT4 hs hv hd hf34
          simp only [Bool.not_false]
          go_wp2_with fail
          go_roundg (m - (j + 1))
          case measure => have := HJ.out; omega
          case rel => exact ⟨j + 1, by have := HJ.out; omega, by go_num, by rw [← HNW.out]; exact H4.out⟩
        | true =>
          obtain ⟨hvB, hvC⟩ := HSM.out.1.body j v hv
          have hcg := HSM.out.1.rin g rfl
          have hgw : g < w.heap.size := own_lt HSM.out.1.row rfl
          obtain ⟨body, hbody⟩ : ∃ body, body = bd (acked + j + 1) := ⟨_, rfl⟩
          rw [← hbody] at hvB hvC
          have hbl : body.length ≤ 1000 := by rw [hbody]; exact HI.out.2.2.2.2.1 _
          have hv4 : Byt w4 v body := Byt.fr' hvB hT4.fr (fun k hk hn e => by rw [hvC k hk hn] at e; omega)
          obtain ⟨vA, vc, rfl, -, -⟩ := hvB
          have hfg := flat2_get _ vs j s _ (tkS_at nw span j S hs) hv
          have r0 := own_cell hT4.row (j * 2) hfg.1
          have r1 := own_cell hT4.row (j * 2 + 1) hfg.2
          have rf : w4.frozen? ⟨g, j * 2 + 1, none⟩ = false := by
            rcases own_form hT4.row with ⟨h, -⟩ | ⟨g', cap', cur, h, -, hb, -⟩
            · cases h
            · injection h with h; injection h with h; injection h with h; subst h; exact hb.frozen _
          have c4 : w4.cell? ⟨sb, 4, none⟩ = some (.int .i64 (nw : Int)) := hT4.blk.cell 4 rfl
          have hw5f : Fr (fun k => k = g) w4 (w4.setCell ⟨g, j * 2 + 1, none⟩ (.int .i64 (nw : Int))) := Fr.set1 _ _ _ _
          have hsbg : sb ≠ g := fun e => by subst e; exact absurd rfl (own_blk_ne hT4.row hT4.blk (by decide) _ rfl)
          have hB5 := hT4.blk.fr hw5f hsbg
          have r0' : (w4.setCell ⟨g, j * 2 + 1, none⟩ (.int .i64 (nw : Int))).cell? ⟨g, j * 2, none⟩ = some (.slice vA body.length vc) := own_cell (own_set hT4.row rfl) (j * 2) (by rw [List.getElem?_set_ne (by omega)]; exact hfg.1)
          have hv5 : Byt (w4.setCell ⟨g, j * 2 + 1, none⟩ (.int .i64 (nw : Int))) (.slice vA body.length vc) body := Byt.fr' hv4 hw5f (fun k hk hn e => by rw [e] at hk; rw [hvC g hk hn] at hcg; omega)
          have H5 := Lib.hid (And.intro hB5 (And.intro r0' (And.intro hv5 hw5f)))
          have HM := Lib.hid (And.intro hcg (And.intro hgw hbody))
          have H4 := Lib.hid (And.intro hT4 (And.intro hs (And.intro hv hd)))
          clear hvC hv4 hfg hw5f hB5 r0' hv5 hT4 hs hv hd hcg hgw hbody hf34 hsbg
          simp only [Bool.not_true]
          go_upto_region 11 with (fail)
          obtain ⟨w5, hw5⟩ : ∃ w5, w5 = w4.setCell ⟨g, j * 2 + 1, none⟩ (.int .i64 (nw : Int)) := ⟨_, rfl⟩
          obtain ⟨hB5, r0', hv5, hf45⟩ := H5.out
          rw [← hw5] at hB5 r0' hv5 hf45 ⊢
          have d0 : w5.cell? ⟨sb, 0, none⟩ = some (.int .u64 3) := hB5.cell 0 rfl
          have d3 : w5.cell? ⟨sb, 3, none⟩ = some (.int .u64 (acked : Int)) := hB5.cell 3 rfl
          have hS5 := And.intro d0 (And.intro d3 r0')
          have hS5a := And.intro (al_cell d0 (Obj.cells #[] 5)) (And.intro (al_cell d3 (Obj.cells #[] 5)) (al_cell r0' (Obj.cells #[] 5)))
          have hS5d : w5.drew.cell? ⟨sb, 0, none⟩ = some (.int .u64 3) ∧ w5.drew.cell? ⟨sb, 3, none⟩ = some (.int .u64 (acked : Int)) ∧ w5.drew.cell? ⟨g, j * 2, none⟩ = some (.slice vA body.length vc) := hS5
          have hS5ad : (w5.alloc (Obj.cells #[] 5)).drew.cell? ⟨sb, 0, none⟩ = some (.int .u64 3) ∧ (w5.alloc (Obj.cells #[] 5)).drew.cell? ⟨sb, 3, none⟩ = some (.int .u64 (acked : Int)) ∧ (w5.alloc (Obj.cells #[] 5)).drew.cell? ⟨g, j * 2, none⟩ = some (.slice vA body.length vc) := hS5a
          obtain ⟨vso, hseg⟩ := H4.out.1.seg
          have hN := tkN_len nw span acked j S
          have hlo : ∀ k, u3.ownBlock = some k → w.heap.size ≤ k ∧ k < w4.heap.size := fun k hk => hseg.row.lt k hk
          have hz4 := H4.out.1.fr.size
          have hz45 := hf45.size
          have hseg5 : w5.ownsRow w.heap.size 60 4 u3 (tkN nw span acked j S).length (flat4 (tkN nw span acked j S) vso) := own_fr hseg.row hf45 (fun k hk e => by have := (hlo k hk).1; have := HM.out.2.1; omega)
          have HS := Lib.hid (And.intro hseg (And.intro hB5 (And.intro r0' (And.intro hf45 (And.intro hlo (And.intro hw5 hseg5))))))
          have HN := Lib.hid (fun (ty : TypeId) (consts : Array Bool) => ap_newd w5 _ _ hv5 (by omega) ty consts)
          have hjl : (j : Int) < 100 := by omega
          have hN2 : (tkN nw span acked j S).length < 100 := by omega
          have hal : (acked : Int) < 1000000 := by omega
          clear hB5 r0' hf45 hw5 d0 d3 hv5 hseg hlo r0 r1 rf c4 hN hseg5 H5
          obtain ⟨hi0, hz0, hz1, hz2, -, -⟩ := HI.out
          have hw5w : w.heap.size ≤ w5.heap.size := by omega
          obtain ⟨y1, y2, y3⟩ := hS5
          obtain ⟨y4, y5, y6⟩ := hS5a
          clear hS5d hS5ad
          go_region_law (first
            | (have _k := ho6
               refine step_append_lies _ (by rfl) _ _ _ (by rfl) w.heap.size 60 i0 _ 4 48 Try.underlying56 hi0 hz0 hz1 hz2 rfl (by omega) _ _ _ (by rfl) (hrow6.alloc _)
                 ⟨w6.heap.size, 0, none⟩ 1 1 [.int .u64 3, .int .u64 (IntKind.u64.wrap (IntKind.u64.wrap ((acked : Int) + IntKind.u64.wrap (j : Int)) + 1)), .bool false, .slice (some ⟨g2, 0, none⟩) body.length cap2] (by rfl) (by rfl) (World.news_of_block (cs := #[.int .u64 3, .int .u64 (IntKind.u64.wrap (IntKind.u64.wrap ((acked : Int) + IntKind.u64.wrap (j : Int)) + 1)), .bool false, .slice (some ⟨g2, 0, none⟩) body.length cap2]) (t := 60) (fr := (0, 0)) (heap_alloc_new w6 _)) (by simp [Value.oneCell'])
                 (by omega) (by simp only [maxLen]; omega) (by omega) (by simp; omega) (w6.heap.size + 1) (by simp) ?_
               intro gg lc' w7 hown7 hgrow hat hlt)
            | (refine step_bi2 rfl .append _ _ _ (.slice (some ⟨w5.heap.size, 0, none⟩) 0 0) (.slice vA body.length vc) rfl rfl rfl _ (HN.out _) ?_
               rintro v6 w6 ⟨g2, cap2, rfl, hg2, hgl2, ho6, hf6⟩
               have hrow6 := own_fr HS.out.2.2.2.2.2.2 hf6 (fun _ _ h => h)
               have hz6 := hf6.size
               have hS6 := And.intro (hf6.cell y1 (fun h => h)) (And.intro (hf6.cell y2 (fun h => h)) (hf6.cell y3 (fun h => h)))
               have hS6a := And.intro (al_cell hS6.1 (Obj.cells #[.int .u64 3, .int .u64 (IntKind.u64.wrap (IntKind.u64.wrap ((acked : Int) + IntKind.u64.wrap (j : Int)) + 1)), .bool false, .slice (some ⟨g2, 0, none⟩) body.length cap2] 60)) (And.intro (al_cell hS6.2.1 (Obj.cells #[.int .u64 3, .int .u64 (IntKind.u64.wrap (IntKind.u64.wrap ((acked : Int) + IntKind.u64.wrap (j : Int)) + 1)), .bool false, .slice (some ⟨g2, 0, none⟩) body.length cap2] 60)) (al_cell hS6.2.2 (Obj.cells #[.int .u64 3, .int .u64 (IntKind.u64.wrap (IntKind.u64.wrap ((acked : Int) + IntKind.u64.wrap (j : Int)) + 1)), .bool false, .slice (some ⟨g2, 0, none⟩) body.length cap2] 60)))
               obtain ⟨y7, y8, y9⟩ := hS6
               obtain ⟨y10, y11, y12⟩ := hS6a))
          all_goals
            obtain ⟨hseg, hB5, r0', hf45, hlo, hw5, hseg5⟩ := HS.out
            obtain ⟨hcg, hgw, hbody⟩ := HM.out
            obtain ⟨hT4, hs, hv, hd⟩ := H4.out
            rw [wr_seq (a := acked) (j := j) (by omega) (by omega)] at hown7
            rw [hbody] at ho6 hown7
            have hfin := tick_fin hT4 hseg hs hd HSM.out.1.len hcg hgw hw5 hf6 hg2 hgl2 ho6 hown7 hgrow hat
            have HFIN := Lib.hid hfin
            clear hfin hseg hB5 r0' hf45 hlo hw5 hseg5 hcg hgw hbody hT4 hs hv hd y1 y2 y3 y4 y5 y6 y7 y8 y9 y10 y11 y12 ho6 hown7 hgrow hat hrow6 hf6
            go_wp2_with fail
            go_roundg (m - (j + 1))
            case measure => have := HJ.out; omega
            case rel => exact ⟨j + 1, by have := HJ.out; omega, by go_num, by rw [← HNW.out]; exact HFIN.out⟩
    · obtain rfl : j = m := by omega
      have HT := Lib.hid hT
      clear hj hT
      go_wp2_with fail
      go_ret
      obtain ⟨vso, hseg⟩ := HT.out.seg
      have hmm := HT0.out.2.2
      rw [← hmm]
      have hTT := HT.out
      exact ⟨_, vso, rfl, hseg, ⟨⟨_, vs, hTT.blk, ⟨by rw [tkS_len]; exact HSM.out.1.len, by rw [tkS_len]; exact hTT.row, HSM.out.1.rin, fun i v hv => (HSM.out.1.body i v hv).fr hTT.fr (fun k e _ => by omega)⟩⟩, HSM.out.2.1, tkS_le _ _ _ _ (fun s hs => Nat.le_succ_of_le (HSM.out.2.2 s hs)), by rw [tkS_len]; exact hro⟩, Recol.same hc hTT.fr⟩
end Go.Proofs.Ytpffmfjphlaiaaa
