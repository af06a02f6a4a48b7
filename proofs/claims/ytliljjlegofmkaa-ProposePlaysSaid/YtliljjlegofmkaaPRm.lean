/- Both proposers side by side; alike; what is lent. -/
import Derived.Test.YtliljjlegofmkaaPRk
import Derived.Test.YtliljjlegofmkaaPRh
import Derived.Test.YtliljjlegofmkaaPU
namespace Go.Proofs.Ytliljjlegofmkaa
open Go.RowKit

/-- The program's proposer and the document's, each in its own blocks. -/
structure Tw (W w : World) (r rr : Nat) (p : Ps) (st : Rs) (c : Nat) (G F : Nat → Prop) : Prop where
  l : Lw W w r p c G
  r : RR w rr st F
  fl : ∀ j, F j → W.heap.size ≤ j ∧ j < w.heap.size
  ds : ∀ j, G j → ¬ F j
section
variable {W w w' : World} {r rr c c' : Nat} {p p' : Ps} {st st' : Rs} {G G' F F' X : Nat → Prop}
theorem Tw.off (h : Tw W w r rr p st c G F) (hf : Fr X w w') (hX : ∀ k, X k → ¬ G k ∧ ¬ F k ∧ W.heap.size ≤ k) : Tw W w' r rr p st c G F :=
  ⟨h.l.off hf (fun k hk => ⟨(hX k hk).1, (hX k hk).2.2⟩), h.r.fr hf (fun k hk hx => (hX k hx).2.1 hk), fun j hj => by have := h.fl j hj; have := hf.size; omega, h.ds⟩
theorem Tw.up (h : Tw W w r rr p st c G F) (hf : Fr (fun _ => False) w w') : Tw W w' r rr p st c G F := h.off hf (fun _ h => h.elim)
theorem Tw.prog (h : Tw W w r rr p st c G F) (hl : Lw W w' r p' c' G') (hn : Nx G G' w w') (hf : Fr G w w') : Tw W w' r rr p' st c' G' F :=
  ⟨hl, h.r.fr hf (fun k hk hg => h.ds k hg hk), fun j hj => by have := h.fl j hj; have := hf.size; omega, fun j hj hF => by
    rcases hn j hj with h1 | h1
    · exact h.ds j h1 hF
    · have := h.fl j hF; omega⟩
theorem Tw.ref (h : Tw W w r rr p st c G F) (hr : RR w' rr st' F') (hn : Nx F F' w w') (hf : Fr F w w') : Tw W w' r rr p st' c G F' := by
  have hs := h.l.fr.size
  refine ⟨h.l.off hf (fun k hk => ⟨fun hg => h.ds k hg hk, (h.fl k hk).1⟩), hr, fun j hj => ?_, fun j hj hF => ?_⟩
  · rcases hn j hj with h1 | h1
    · have := h.fl j h1; have := hf.size; omega
    · omega
  · rcases hn j hF with h1 | h1
    · exact h.ds j hj h1
    · have := (h.l.lo j hj).2; omega
theorem Nx.keep {k : Nat} (hn : Nx G G' w w') (hk : ¬ G k) (hlt : k < w.heap.size) : ¬ G' k := fun h => by
  rcases hn k h with h1 | h1
  · exact hk h1
  · omega
end

set_option maxRecDepth 100000 in
set_option maxHeartbeats 4000000 in
theorem alike_any (r rr : Nat) (p : Ps) (st : Rs) (c : Nat) (G F : Nat → Prop) (k : Nat) (hk : k < 18446744073709551616) (w : World) (h : PR w r p c G) (hc : c ≤ maxLen) (hr : RR w rr st F) (hrel : Rel p st) :
    Calls Try.prog 28 #[.pointer (some ⟨r, 0, none⟩), .pointer (some ⟨rr, 0, none⟩), .int .u64 k] w fun e w' => e = .returned (.bool true) ∧ Fr (fun _ => False) w w' := by
  have H := Lib.hid h
  have R := Lib.hid hr
  have L := Lib.hid hrel
  clear h hr hrel
  go_enter Try.func28, Try.ntmps28
  go_wp2_with fail
  refine (must_any r p c G k hk w H.out).mono ?_
  rintro e w1 ⟨ma, mc, rfl, hm1, hf1⟩
  have F1 := Lib.hid hf1
  clear hf1
  go_wp2_with fail
  refine (rmust_any rr st F k w1 (R.out.none_ F1.out)).mono ?_
  rintro e w2 ⟨o, ho, na, nc, rfl, hm2, hf2⟩
  have hmb := L.out.muB R.out.wf ho
  rw [hmb] at hm2 ⊢
  have F2 := Lib.hid (F1.out.tr hf2)
  have M1 := Lib.hid (Byt.of_own (own_fr hm1 hf2 (fun _ _ h => h)))
  have M2 := Lib.hid (Byt.of_own hm2)
  clear ho hmb hf2 hm1 hm2
  go_wp2_with fail
  refine (chosen_any r p c G k hk w2 (H.out.none_ F2.out)).mono ?_
  rintro e w3 ⟨ca, cc, rfl, hm3, hf3⟩
  have F3 := Lib.hid (F2.out.tr hf3)
  have M1 := Lib.hid (M1.out.fr hf3 (fun _ _ h => h))
  have M2 := Lib.hid (M2.out.fr hf3 (fun _ _ h => h))
  clear hf3
  go_wp2_with fail
  refine (rchosen_any rr st F k w3 (R.out.none_ F3.out)).mono ?_
  rintro e w4 ⟨da, dc, rfl, hm4, hf4⟩
  rw [L.out.chB] at hm4 ⊢
  have F4 := Lib.hid (F3.out.tr hf4)
  have M1 := Lib.hid (M1.out.fr hf4 (fun _ _ h => h))
  have M2 := Lib.hid (M2.out.fr hf4 (fun _ _ h => h))
  have M3 := Lib.hid (Byt.of_own (own_fr hm3 hf4 (fun _ _ h => h)))
  have M4 := Lib.hid hm4
  clear hf4 hm3 hm4
  go_wp2_with fail
  refine (same_any _ _ _ _ w4 M1.out M2.out).mono ?_
  rintro e w5 ⟨rfl, rfl⟩
  rw [decide_eq_true rfl]
  have hb1 : ((muB p k).isSome == (muB p k).isSome) = true := by simp
  go_wp2_with fail
  refine (same_any _ _ _ _ w4 M3.out M4.out).mono ?_
  rintro e w5 ⟨rfl, rfl⟩
  rw [decide_eq_true rfl]
  have hb2 : ((chB p k).isSome == (chB p k).isSome) = true := by simp
  go_wp2_with fail
  refine (ready_any r p c G w4 (H.out.none_ F4.out)).mono ?_
  rintro e w5 ⟨rfl, hf5⟩
  have F5 := Lib.hid (F4.out.tr hf5)
  clear hf5
  go_wp2_with fail
  refine (rready_any rr st F w5 (R.out.none_ F5.out)).mono ?_
  rintro e w6 ⟨rfl, hf6⟩
  have F6 := Lib.hid (F5.out.tr hf6)
  rw [L.out.ready]
  have hb3 : (readyB p == readyB p) = true := by simp
  clear hf6
  go_wp2_with fail
  refine (top_any r p c G w6 (H.out.none_ F6.out) hc).mono ?_
  rintro e w7 ⟨⟨ta, ht, rfl⟩, hf7⟩
  have F7 := Lib.hid (F6.out.tr hf7)
  have T1 := Lib.hid ht
  clear hf7 ht
  go_wp2_with fail
  refine (rtop_any rr st F w7 (R.out.none_ F7.out)).mono ?_
  rintro e w8 ⟨⟨tb, ht, rfl⟩, hf8⟩
  obtain rfl := L.out.top T1.out ht
  have F8 := Lib.hid (F7.out.tr hf8)
  have hb4 : ((ta : Int) == (ta : Int)) = true := by simp
  clear hf8 ht
  go_wp2_with fail
  refine (prefix_any r p c G w8 (H.out.none_ F8.out)).mono ?_
  rintro e w9 ⟨⟨qa, -, hq, rfl⟩, hf9⟩
  have F9 := Lib.hid (F8.out.tr hf9)
  have T2 := Lib.hid hq
  clear hf9 hq
  go_wp2_with fail
  refine (rprefix_any rr st F w9 (R.out.none_ F9.out)).mono ?_
  rintro e w10 ⟨⟨qb, -, hq, rfl⟩, hf10⟩
  obtain rfl := L.out.pre T2.out hq
  have F10 := Lib.hid (F9.out.tr hf10)
  have hb5 : (((qa - 1 : Nat) : Int) == ((qa - 1 : Nat) : Int)) = true := by simp
  clear hf10 hq
  go_wp2_with fail
  go_ret
  exact ⟨rfl, F10.out⟩

theorem Marks.own {w : World} {g cap : Nat} {bs : List UInt8} (h : Marks w g cap bs) : w.ownsRow 0 5 1 (.slice (some ⟨g, 0, none⟩) bs.length cap) bs.length (u8s bs) := by
  obtain ⟨cur, h1, h2, h3, h4, h5⟩ := h
  refine own_mk h1 (by omega) h3 (by rw [h4, Nat.mul_one]) ?_
  have := congrArg (List.take bs.length) h5
  rw [List.take_take, Nat.min_eq_left (by omega), u8s_append, List.take_append_of_le_length (by simp)] at this
  rw [Nat.mul_one, this, List.take_of_length_le (by simp)]
theorem Marks.lt {w : World} {g cap : Nat} {bs : List UInt8} (h : Marks w g cap bs) : g < w.heap.size := by
  obtain ⟨cur, h1, _⟩ := h
  exact h1.lt

def lrow (l : List Vt) (gs : List (Nat × Nat)) : List Value := List.zipWith (fun (p : Vt) g => Value.slice (some ⟨g.1, 0, none⟩) p.v.length g.2) l gs
/-- Votes whose values are lent. -/
structure Lnt (w0 w : World) (v : Value) (l : List Vt) (gs : List (Nat × Nat)) : Prop where
  cop : Cop w0 w v l (lrow l gs)
  len : gs.length = l.length
  val : ∀ (i : Nat) (p : Vt) (g : Nat × Nat), l[i]? = some p → gs[i]? = some g → Marks w g.1 g.2 p.v ∧ w0.heap.size ≤ g.1
  dist : gs.Pairwise fun a b => a.1 ≠ b.1
section
variable {w0 w w' : World} {v v' : Value} {l : List Vt} {gs : List (Nat × Nat)}
theorem lrow_get {i : Nat} {p : Vt} {g : Nat × Nat} (hp : l[i]? = some p) (hg : gs[i]? = some g) : (lrow l gs)[i]? = some (.slice (some ⟨g.1, 0, none⟩) p.v.length g.2) := by
  unfold lrow
  rw [List.getElem?_zipWith, hp, hg]
theorem lrow_append (h : gs.length = l.length) (p : Vt) (g : Nat × Nat) : lrow (l ++ [p]) (gs ++ [g]) = lrow l gs ++ [.slice (some ⟨g.1, 0, none⟩) p.v.length g.2] := by
  unfold lrow
  rw [List.zipWith_append h.symm]
  rfl
theorem Lnt.nil (w : World) : Lnt w w (.slice none 0 0) [] [] := ⟨Cop.nil w, rfl, fun i p g h => by simp at h, List.Pairwise.nil⟩
theorem Lnt.up (h : Lnt w0 w v l gs) (hf : Fr (fun _ => False) w w') : Lnt w0 w' v l gs :=
  ⟨h.cop.up hf, h.len, fun i p g hp hg => ⟨(h.val i p g hp hg).1.fr hf (fun h => h), (h.val i p g hp hg).2⟩, h.dist⟩
theorem Lnt.put1 (h : Lnt w0 w v l gs) {b i : Nat} {u : Value} {t : TypeId} {cs : Array Value} (hB : Blk w b t cs) (hb : w0.heap.size ≤ b) (h1 : 5 ≠ t) (hv : ∀ k, v.ownBlock = some k → k ≠ b) : Lnt w0 (w.setCell ⟨b, i, none⟩ u) v l gs := by
  refine ⟨h.cop.put1 hB hb h1 hv, h.len, fun j p g hp hg => ⟨(h.val j p g hp hg).1.fr (Fr.set1 w b i u) (fun e => ?_), (h.val j p g hp hg).2⟩, h.dist⟩
  obtain ⟨cur, hc, _⟩ := (h.val j p g hp hg).1
  exact hc.ne_ hB h1 e
theorem Lnt.more {p : Vt} {g : Nat × Nat} (h : Lnt w0 w v l gs) (hm : Marks w g.1 g.2 p.v) (hg0 : w0.heap.size ≤ g.1) (hnew : ∀ (i : Nat) (q : Nat × Nat), gs[i]? = some q → q.1 ≠ g.1)
    (ha : Appended w0.heap.size 45 4 w v l.length 1 (flatV l (lrow l gs)) [.int .u64 p.s, .int .u64 p.n, .int .i64 p.d, .slice (some ⟨g.1, 0, none⟩) p.v.length g.2] v' w') : Lnt w0 w' v' (l ++ [p]) (gs ++ [g]) := by
  have hown : w.ownsRow w0.heap.size 5 1 (.slice (some ⟨g.1, 0, none⟩) p.v.length g.2) p.v.length (u8s p.v) := own_up hm.own (fun k hk => by simp only [Value.ownBlock] at hk; injection hk with hk; omega)
  have hf : Fr (fun k => v.ownBlock = some k) w w' := (Fr.refl _ w).grown ha.2.1 (fun k hk _ => hk)
  have keep : ∀ (a : Nat × Nat) (bs : List UInt8), Marks w a.1 a.2 bs → Marks w' a.1 a.2 bs := fun a bs hM => by
    refine hM.fr hf (fun e => ?_)
    obtain ⟨cur, hc, _⟩ := hM
    exact own_blk_ne h.cop.row hc (by decide) a.1 e rfl
  refine ⟨by rw [lrow_append h.len]; exact h.cop.more hown ha, by simp [h.len], fun i q a hq hx => ?_, ?_⟩
  · by_cases hi : i < l.length
    · rw [List.getElem?_append_left hi] at hq
      rw [List.getElem?_append_left (by rw [h.len]; exact hi)] at hx
      obtain ⟨h1, h2⟩ := h.val i q a hq hx
      exact ⟨keep a _ h1, h2⟩
    · have hi' : i = l.length := by
        have := (List.getElem?_eq_some_iff.1 hq).1
        simp at this; omega
      subst hi'
      rw [List.getElem?_append_right (Nat.le_refl _)] at hq
      rw [List.getElem?_append_right (by rw [h.len]; exact Nat.le_refl _), h.len] at hx
      simp at hq hx
      subst hq hx
      exact ⟨keep g _ hm, hg0⟩
  · refine List.pairwise_append.2 ⟨h.dist, by simp, fun a ha b hb => ?_⟩
    have : b = g := by simpa using hb
    rw [this]
    obtain ⟨i, hi⟩ := List.getElem?_of_mem ha
    exact hnew i a hi
theorem Lnt.lt (h : Lnt w0 w v l gs) {i : Nat} {g : Nat × Nat} (hg : gs[i]? = some g) : g.1 < w.heap.size := by
  have hi : i < l.length := by rw [← h.len]; exact (List.getElem?_eq_some_iff.1 hg).1
  exact (h.val i l[i] g (List.getElem?_eq_getElem hi) hg).1.lt
end

set_option maxRecDepth 100000 in
set_option maxHeartbeats 8000000 in
theorem lent_votes (v : Value) (l : List Vt) (X : Nat → Prop) (w : World) (hl : VtL w v l X) (hll : l.length ≤ 100000) (hb : ∀ p ∈ l, p.v.length ≤ 100000) :
    Calls Try.prog 44 #[v] w fun e w' => ∃ va vc gs, e = .returned (.slice va l.length vc) ∧ Lnt w w' (.slice va l.length vc) l gs := by
  obtain ⟨i0, hi0, hz0, hz1, hz2⟩ := info_parts vtinfo
  have HB := Lib.hid hb
  obtain ⟨⟨A, c, rfl, hl1⟩, -⟩ := hl
  have HL := Lib.hid hl1
  clear hl1 hb
  go_enter Try.func44, Try.ntmps44
  go_wp2_with fail
  go_loopg [3, 4] l.length (fun g x3 x4 wr => ∃ (j : Nat) (va : Option Addr) (vc : Nat) (gs : List (Nat × Nat)), j + g = l.length ∧ x4 = .int .i64 j ∧ x3 = .slice va j vc ∧ Lnt w wr (.slice va j vc) (l.take j) gs)
  case atStart => exact ⟨0, none, 0, [], by omega, rfl, rfl, Lnt.nil _⟩
  case round =>
    obtain ⟨j, va, vc, gs, hj, rfl, rfl, hcop⟩ := hrel
    have HJ := Lib.hid hj
    have HCop := Lib.hid hcop
    have hj' : j ≤ l.length := by omega
    have hfrr := hcop.cop.fr
    clear hj hcop
    by_cases hjl : j < l.length
    · obtain ⟨p, hp⟩ : ∃ p, l[j]? = some p := ⟨_, List.getElem?_eq_getElem hjl⟩
      obtain ⟨b, off, s, rfl, -, hat, -⟩ := HL.out j p hp
      have hpl := HB.out p (List.mem_of_getElem? hp)
      have hby := hat.by_.fr hfrr (fun _ _ h => h)
      have hbyw := hat.by_
      obtain ⟨sa, sc, rfl, -, -⟩ := hbyw
      have q0 := hfrr.cell hat.c0 (fun h => h)
      have q1 := hfrr.cell hat.c1 (fun h => h)
      have q2 := hfrr.cell hat.c2 (fun h => h)
      have q3 := hfrr.cell hat.c3 (fun h => h)
      have HP := Lib.hid hp
      obtain ⟨w4, hw4⟩ : ∃ w4, w4 = wr.alloc (.cells #[.int .u64 p.s, .int .u64 p.n, .int .i64 p.d, .slice sa p.v.length sc] 45) := ⟨_, rfl⟩
      have hf4 : Fr (fun _ => False) wr w4 := by rw [hw4]; exact (Fr.refl _ wr).alloc _
      obtain ⟨bv, hbv⟩ : ∃ b, b = wr.heap.size := ⟨_, rfl⟩
      have hV4 : Blk w4 bv 45 #[.int .u64 p.s, .int .u64 p.n, .int .i64 p.d, .slice sa p.v.length sc] := by rw [hw4, hbv]; exact Blk.new _ _ _
      have hby4 := hby.fr hf4 (fun _ _ h => h)
      have hC4 := HCop.out.up hf4
      have hbvne : ∀ k, (Value.slice va j vc).ownBlock = some k → k ≠ bv := fun k hk => by
        have := own_lt (own_base HCop.out.cop.row) (k := k) hk
        omega
      have hbv3 : w.heap.size ≤ bv := by rw [hbv]; exact HCop.out.cop.fr.size
      have HW4 := Lib.hid hw4
      have HBV := Lib.hid hbv
      have HNe := Lib.hid (And.intro hbvne hbv3)
      clear hat hp hw4 hf4 hbv hby hbvne hbv3
      go_upto_region 6 with (fail)
      rw [← HW4.out, ← HBV.out]
      clear HW4 HBV q0 q1 q2 q3
      have v3 := hV4.cell 3 rfl
      go_wp2_with fail
      refine (lent_any _ p.v w4 hby4 (by omega)).mono ?_
      rintro e w5 ⟨g5, c5, rfl, hm5, hg5, hf5⟩
      have hV5 := hV4.fr hf5 (fun h => h)
      have hC5 := hC4.up hf5
      have hnew : ∀ (i : Nat) (q : Nat × Nat), gs[i]? = some q → q.1 ≠ g5 := fun i q hq => by have := hC4.lt hq; omega
      have hg5' : w.heap.size ≤ g5 := by have := hC4.cop.fr.size; omega
      have hgbv : g5 ≠ bv := by have := hV4.lt; omega
      clear v3 hV4 hC4 hf5 hby4
      obtain ⟨w6, hw6⟩ : ∃ w6, w6 = w5.setCell ⟨bv, 3, none⟩ (.slice (some ⟨g5, 0, none⟩) p.v.length c5) := ⟨_, rfl⟩
      have hV6 : Blk w6 bv 45 #[.int .u64 p.s, .int .u64 p.n, .int .i64 p.d, .slice (some ⟨g5, 0, none⟩) p.v.length c5] := by rw [hw6]; simpa using hV5.set_ 3 (.slice (some ⟨g5, 0, none⟩) p.v.length c5)
      have hC6 : Lnt w w6 (.slice va j vc) (l.take j) gs := by rw [hw6]; exact hC5.put1 hV5 HNe.out.2 (by decide) HNe.out.1
      have hm6 : Marks w6 g5 c5 p.v := by rw [hw6]; exact hm5.fr (Fr.set1 w5 bv 3 _) hgbv
      have v3 := hV5.cell 3 rfl
      have f3 := hV5.frozen 3
      have HW6 := Lib.hid hw6
      clear hw6 hV5 hC5 hm5
      go_upto_region 7 with (fail)
      rw [← HW6.out]
      clear HW6 v3 f3
      have v0 := hV6.cell 0 rfl
      have v1 := hV6.cell 1 rfl
      have v2 := hV6.cell 2 rfl
      have v3 := hV6.cell 3 rfl
      obtain ⟨w7, hw7⟩ : ∃ w7, w7 = w6.alloc (.cells #[.int .u64 p.s, .int .u64 p.n, .int .i64 p.d, .slice (some ⟨g5, 0, none⟩) p.v.length c5] 45) := ⟨_, rfl⟩
      have hf7 : Fr (fun _ => False) w6 w7 := by rw [hw7]; exact (Fr.refl _ w6).alloc _
      have hC7 := hC6.up hf7
      have hm7 := hm6.fr hf7 (fun h => h)
      have hn7 : ∀ i u, [Value.int .u64 p.s, .int .u64 p.n, .int .i64 p.d, .slice (some ⟨g5, 0, none⟩) p.v.length c5][i]? = some u → w7.cell? (Addr.add ⟨w6.heap.size, 0, none⟩ i) = some u := by
        rw [hw7]; exact World.news_of_block (cs := #[.int .u64 p.s, .int .u64 p.n, .int .i64 p.d, .slice (some ⟨g5, 0, none⟩) p.v.length c5]) (t := 45) (fr := (0, 0)) (heap_alloc_new w6 _)
      have hrow := hC7.cop.row
      have htl : (l.take j).length = j := by simp; omega
      rw [htl] at hrow
      have hz7 := hC7.cop.fr.size
      have HW7 := Lib.hid hw7
      have HC7 := Lib.hid (And.intro hC7 (And.intro hm7 htl))
      clear hw7 hf7 hC7 hm7 hC6 hm6 hV6 htl
      go_wp2_with (first
        | (at_builtin
           rw [← HW7.out]
           clear HW7
           refine wpList_bi2 rfl .append _ _ _ _ _ rfl rfl rfl _ (ap_cells (base := w.heap.size) Try.underlying29 hi0 hz0 hz1 hz2 rfl (by omega) hrow ⟨w6.heap.size, 0, none⟩ 1 1 [.int .u64 p.s, .int .u64 p.n, .int .i64 p.d, .slice (some ⟨g5, 0, none⟩) p.v.length c5] rfl hn7 (by simp [Value.oneCell']) (by unfold maxLen; omega) (by omega) hz7) ?_
           rintro v' w8 hap
           obtain ⟨va8, vc8, rfl⟩ := own_sl4 hap.1))
      go_roundg (l.length - (j + 1))
      case measure => have := HJ.out; omega
      case rel =>
        obtain ⟨hC7, hm7, htl⟩ := HC7.out
        refine ⟨j + 1, va8, vc8, gs ++ [(g5, c5)], by have := HJ.out; omega, by go_num, rfl, ?_⟩
        have := hC7.more (g := (g5, c5)) hm7 hg5' hnew (by rw [htl]; exact hap)
        rwa [show l.take j ++ [p] = l.take (j + 1) by rw [List.take_add_one, HP.out]; rfl] at this
    · obtain rfl : j = l.length := by omega
      have hC := HCop.out
      rw [List.take_length] at hC
      have HC := Lib.hid hC
      clear hC HCop hfrr
      go_wp2_with fail
      go_ret
      exact ⟨va, vc, gs, rfl, HC.out⟩
end Go.Proofs.Ytliljjlegofmkaa
