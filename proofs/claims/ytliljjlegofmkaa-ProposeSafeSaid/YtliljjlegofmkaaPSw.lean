/- The walk of ProposeSafe. -/
import Derived.Test.YtliljjlegofmkaaPSg
import Derived.Test.YtliljjlegofmkaaPNe
import Derived.Deep.LoopGhost
import Derived.Deep.RegionHeld3
namespace Go.Proofs.Ytliljjlegofmkaa
open Go.RowKit

/-- Between two rounds. -/
structure SfO (W w : World) (bq vb pb : Nat) (q : Qu) (s : Value) (i : Nat) (vt : Nat → Option Vt) (sf : Value) (first : List UInt8) : Prop where
  fr : Fr (fun k => W.heap.size ≤ k) W w
  q : Blk w bq 24 #[.int .i64 q.k, .int .i64 q.n, .int .i64 q.o, .int .i64 q.t, s]
  v : Vts w vb vt (fun k => k = vb ∨ k = pb)
  m : Prom w pb (ballN i) (ballD i)
  f : w.ownsRow 0 5 1 sf first.length (u8s first)
  lv : W.heap.size ≤ vb
  lp : W.heap.size ≤ pb
/-- In a round. -/
structure SfR (W w : World) (r bq vb pb : Nat) (q : Qu) (s : Value) (i : Nat) (vt : Nat → Option Vt) (sf : Value) (first : List UInt8) (p : Ps) (c : Nat) (G : Nat → Prop) : Prop where
  l : Lw W w r p c G
  q : Blk w bq 24 #[.int .i64 q.k, .int .i64 q.n, .int .i64 q.o, .int .i64 q.t, s]
  v : Vts w vb vt (fun k => k = vb ∨ k = pb ∨ G k)
  m : Prom w pb (ballN i) (ballD i)
  f : w.ownsRow 0 5 1 sf first.length (u8s first)
  lv : W.heap.size ≤ vb
  lp : W.heap.size ≤ pb
  nq : ¬ G bq
  nv : ¬ G vb
  np : ¬ G pb
  nf : ∀ j, sf.ownBlock = some j → ¬ G j
theorem Vts.blk {w : World} {vb : Nat} {vt : Nat → Option Vt} {X : Nat → Prop} (h : Vts w vb vt X) : ∃ cur, Blk w vb 30 cur := by obtain ⟨cur, h, _⟩ := h; exact ⟨cur, h⟩
theorem Prom.blk {w : World} {pb b : Nat} {d : Int} (h : Prom w pb b d) : ∃ cur, Blk w pb 34 cur := by obtain ⟨cur, h, _⟩ := h; exact ⟨cur, h⟩
section
variable {W w w' : World} {r bq vb pb i c c' : Nat} {q : Qu} {s sf : Value} {vt : Nat → Option Vt} {first : List UInt8} {p p' : Ps} {G G' : Nat → Prop}
theorem SfO.up (h : SfO W w bq vb pb q s i vt sf first) (hf : Fr (fun _ => False) w w') : SfO W w' bq vb pb q s i vt sf first :=
  ⟨h.fr.tr hf.none_up, h.q.fr hf (fun h => h), h.v.fr hf (fun _ h => h.elim) (fun h => h), h.m.fr hf (fun h => h), own_fr h.f hf (fun _ _ h => h), h.lv, h.lp⟩
theorem SfR.up (h : SfR W w r bq vb pb q s i vt sf first p c G) (hf : Fr (fun _ => False) w w') : SfR W w' r bq vb pb q s i vt sf first p c G :=
  ⟨h.l.up hf, h.q.fr hf (fun h => h), h.v.fr hf (fun _ h => h.elim) (fun h => h), h.m.fr hf (fun h => h), own_fr h.f hf (fun _ _ h => h), h.lv, h.lp, h.nq, h.nv, h.np, h.nf⟩
theorem SfR.next (h : SfR W w r bq vb pb q s i vt sf first p c G) (hl : Lw W w' r p' c' G') (hn : Nx G G' w w') (hf : Fr G w w') : SfR W w' r bq vb pb q s i vt sf first p' c' G' := by
  obtain ⟨cv, hv⟩ := h.v.blk
  obtain ⟨cp, hp⟩ := h.m.blk
  refine ⟨hl, h.q.fr hf h.nq, ?_, h.m.fr hf h.np, own_fr h.f hf h.nf, h.lv, h.lp, hn.not h.nq h.q.lt, hn.not h.nv hv.lt, hn.not h.np hp.lt, fun j hj => hn.not (h.nf j hj) (own_lt h.f hj)⟩
  have h1 := h.v.more (Y := fun k => k = vb ∨ k = pb ∨ G k ∨ w.heap.size ≤ k) (fun k hk => by
    rcases hk with h | h | h | h
    · exact .inl (.inl h)
    · exact .inl (.inr (.inl h))
    · exact .inl (.inr (.inr h))
    · exact .inr h)
  have h2 := h1.fr hf (fun k hk => .inr (.inr (.inl hk))) h.nv
  exact h2.more (fun k hk => .inl (by
    rcases hk with h | h | h
    · exact .inl h
    · exact .inr (.inl h)
    · rcases hn k h with h | h
      · exact .inr (.inr (.inl h))
      · exact .inr (.inr (.inr h.1))))
theorem SfR.putP (h : SfR W w r bq vb pb q s i vt sf first p c G) {n : Nat} (hn : n < 12) : SfR W ((w.setCell ⟨pb, n * 2, none⟩ (.int .u64 (ballN i))).setCell ⟨pb, n * 2 + 1, none⟩ (.int .i64 (ballD i))) r bq vb pb q s i vt sf first p c G := by
  obtain ⟨cv, hv⟩ := h.v.blk
  obtain ⟨cp, hp⟩ := h.m.blk
  have hf : Fr (fun k => k = pb) w ((w.setCell ⟨pb, n * 2, none⟩ (.int .u64 (ballN i))).setCell ⟨pb, n * 2 + 1, none⟩ (.int .i64 (ballD i))) := (Fr.set1 w pb (n * 2) _).setCell (p := ⟨pb, n * 2 + 1, none⟩) (fun _ => rfl) _
  exact ⟨h.l.off hf (fun k hk => by subst hk; exact ⟨h.np, h.lp⟩), h.q.fr hf (h.q.ne_ hp (by decide)), h.v.fr hf (fun k hk => .inr (.inl hk)) (hv.ne_ hp (by decide)), h.m.put hn, own_fr h.f hf (fun k hk => own_blk_ne h.f hp (by decide) k hk), h.lv, h.lp, h.nq, h.nv, h.np, h.nf⟩
theorem SfR.putV (h : SfR W w r bq vb pb q s i vt sf first p c G) {n : Nat} (hn : n < 12) {u : Value} {V : Vt} (hu : VtL w u [V] (fun k => k = vb ∨ k = pb ∨ G k)) : SfR W (w.setCell ⟨vb, n, none⟩ u) r bq vb pb q s i (upd vt n V) sf first p c G := by
  obtain ⟨cv, hv⟩ := h.v.blk
  obtain ⟨cp, hp⟩ := h.m.blk
  have hf : Fr (fun k => k = vb) w (w.setCell ⟨vb, n, none⟩ u) := Fr.set1 _ _ _ _
  exact ⟨h.l.off hf (fun k hk => by subst hk; exact ⟨h.nv, h.lv⟩), h.q.fr hf (h.q.ne_ hv (by decide)), h.v.put hn hu (.inl rfl), h.m.fr hf (hp.ne_ hv (by decide)), own_fr h.f hf (fun k hk => own_blk_ne h.f hv (by decide) k hk), h.lv, h.lp, h.nq, h.nv, h.np, h.nf⟩
/-- A round begins. -/
theorem SfO.begin_ (h : SfO W w bq vb pb q s i vt sf first) (hl : Lw W w' r p c G) (hf : Fr (fun _ => False) w w') (hg : ∀ j, G j → w.heap.size ≤ j) : SfR W w' r bq vb pb q s i vt sf first p c G := by
  obtain ⟨cv, hv⟩ := h.v.blk
  obtain ⟨cp, hp⟩ := h.m.blk
  refine ⟨hl, h.q.fr hf (fun h => h), ?_, h.m.fr hf (fun h => h), own_fr h.f hf (fun _ _ h => h), h.lv, h.lp, fun e => ?_, fun e => ?_, fun e => ?_, fun j hj e => ?_⟩
  · have h1 := h.v.more (Y := fun k => k = vb ∨ k = pb ∨ G k) (fun k hk => by
      rcases hk with h | h | h
      · exact .inl (.inl h)
      · exact .inl (.inr h)
      · exact .inr (hg k h))
    exact h1.fr hf (fun _ h => h.elim) (fun h => h)
  · have := hg _ e; have := h.q.lt; omega
  · have := hg _ e; have := hv.lt; omega
  · have := hg _ e; have := hp.lt; omega
  · have := hg _ e; have := own_lt h.f hj; omega
/-- .. and ends. -/
theorem SfR.end_ (h : SfR W w r bq vb pb q s i vt sf first p c G) : SfO W w bq vb pb q s (i + 1) vt sf first :=
  ⟨h.l.fr, h.q, h.v.more (fun k hk => .inl (by rcases hk with h | h; exact .inl h; exact .inr (.inl h))), h.m.up (less_of (ball_next i)), h.f, h.lv, h.lp⟩
theorem SfO.it (h : SfO W w bq vb pb q s i vt sf first) {l : List Int} (hs : Ints W s l) : Ints w s l := hs.keep h.fr
theorem SfO.below (h : SfO W w bq vb pb q s i vt sf first) (hf : Fr (fun _ => False) w w') : Below W.heap.size W w' := (h.up hf).fr.below (Nat.le_refl _)
end
/-- .. with the vote that it told. -/
structure SfV (W w : World) (r bq vb pb bb bv : Nat) (q : Qu) (s : Value) (i : Nat) (vt : Nat → Option Vt) (sf : Value) (first : List UInt8) (V : Vt) (sv : Value) (p : Ps) (c : Nat) (G : Nat → Prop) : Prop where
  r : SfR W w r bq vb pb q s i vt sf first p c G
  b : Blk w bb 33 #[.int .u64 (ballN i : Nat), .int .i64 (ballD i)]
  nb : ¬ G bb
  v : Blk w bv 45 #[.int .u64 V.s, .int .u64 V.n, .int .i64 V.d, sv]
  nv : ¬ G bv
  o : w.ownsRow 0 5 1 sv V.v.length (u8s V.v)
  no : ∀ j, sv.ownBlock = some j → ¬ G j
section
variable {W w w' : World} {r bq vb pb bb bv i c c' : Nat} {q : Qu} {s sf sv : Value} {vt : Nat → Option Vt} {first : List UInt8} {V : Vt} {p p' : Ps} {G G' : Nat → Prop}
theorem SfV.up (h : SfV W w r bq vb pb bb bv q s i vt sf first V sv p c G) (hf : Fr (fun _ => False) w w') : SfV W w' r bq vb pb bb bv q s i vt sf first V sv p c G :=
  ⟨h.r.up hf, h.b.fr hf (fun h => h), h.nb, h.v.fr hf (fun h => h), h.nv, own_fr h.o hf (fun _ _ h => h), h.no⟩
theorem SfV.next (h : SfV W w r bq vb pb bb bv q s i vt sf first V sv p c G) (hl : Lw W w' r p' c' G') (hn : Nx G G' w w') (hf : Fr G w w') : SfV W w' r bq vb pb bb bv q s i vt sf first V sv p' c' G' :=
  ⟨h.r.next hl hn hf, h.b.fr hf h.nb, hn.not h.nb h.b.lt, h.v.fr hf h.nv, hn.not h.nv h.v.lt, own_fr h.o hf h.no, fun j hj => hn.not (h.no j hj) (own_lt h.o hj)⟩
theorem SfV.putP (h : SfV W w r bq vb pb bb bv q s i vt sf first V sv p c G) {n : Nat} (hn : n < 12) : SfV W ((w.setCell ⟨pb, n * 2, none⟩ (.int .u64 (ballN i))).setCell ⟨pb, n * 2 + 1, none⟩ (.int .i64 (ballD i))) r bq vb pb bb bv q s i vt sf first V sv p c G := by
  obtain ⟨cp, hp⟩ := h.r.m.blk
  have hf : Fr (fun k => k = pb) w ((w.setCell ⟨pb, n * 2, none⟩ (.int .u64 (ballN i))).setCell ⟨pb, n * 2 + 1, none⟩ (.int .i64 (ballD i))) := (Fr.set1 w pb (n * 2) _).setCell (p := ⟨pb, n * 2 + 1, none⟩) (fun _ => rfl) _
  exact ⟨h.r.putP hn, h.b.fr hf (h.b.ne_ hp (by decide)), h.nb, h.v.fr hf (h.v.ne_ hp (by decide)), h.nv, own_fr h.o hf (fun k hk => own_blk_ne h.o hp (by decide) k hk), h.no⟩
theorem SfV.putV (h : SfV W w r bq vb pb bb bv q s i vt sf first V sv p c G) {n : Nat} (hn : n < 12) {u : Value} {V' : Vt} (hu : VtL w u [V'] (fun k => k = vb ∨ k = pb ∨ G k)) : SfV W (w.setCell ⟨vb, n, none⟩ u) r bq vb pb bb bv q s i (upd vt n V') sf first V sv p c G := by
  obtain ⟨cv, hv⟩ := h.r.v.blk
  have hf : Fr (fun k => k = vb) w (w.setCell ⟨vb, n, none⟩ u) := Fr.set1 _ _ _ _
  exact ⟨h.r.putV hn hu, h.b.fr hf (h.b.ne_ hv (by decide)), h.nb, h.v.fr hf (h.v.ne_ hv (by decide)), h.nv, own_fr h.o hf (fun k hk => own_blk_ne h.o hv (by decide) k hk), h.no⟩
end
theorem reps {α : Type} (n : Nat) (x : α) {i : Nat} (h : i < n) : (Array.replicate n x)[i]? = some x := by simp [h]

set_option maxRecDepth 100000 in
set_option maxHeartbeats 32000000 in
theorem safe_law (q : Qu) (s v1 v2 : Value) (l1 : List (Nat × Nat)) (l2 : List (List UInt8)) (W : World) (hs : Ints W s q.s) (hnil : ∀ c, s = .slice none 0 c → c = 0) (h1 : SetL W v1 l1) (h2 : RowL W v2 l2) :
    Calls Try.prog 3 #[q.v s, v1, v2] W fun e w' => e = .returned (.bool true) ∧ Below W.heap.size W w' := by
  have HR := Lib.hid (rright_any q s)
  have HI1 := Lib.hid (fun X hX w hw hl => ris_any q false s X hX w hw hl)
  have HI2 := Lib.hid (fun X hX w hw hl => ris_any q true s X hX w hw hl)
  have HS := Lib.hid hs
  have HNil := Lib.hid hnil
  obtain ⟨E, hE⟩ : ∃ E, E = rightE q := ⟨_, rfl⟩
  obtain ⟨w1, hw1⟩ : ∃ w1, w1 = W.alloc (.cells #[.int .i64 q.k, .int .i64 q.n, .int .i64 q.o, .int .i64 q.t, s] 24) := ⟨_, rfl⟩
  have hf1 : Fr (fun _ => False) W w1 := by rw [hw1]; exact (Fr.refl _ W).alloc _
  have hB : Blk w1 W.heap.size 24 #[.int .i64 q.k, .int .i64 q.n, .int .i64 q.o, .int .i64 q.t, s] := by rw [hw1]; exact Blk.new _ _ _
  obtain ⟨bq, hbq⟩ : ∃ bq, bq = W.heap.size := ⟨_, rfl⟩
  rw [← hbq] at hB
  rw [← hE] at HR
  have HE := Lib.hid hE
  clear hE hnil
  obtain ⟨k, n, o, t, l⟩ := q
  obtain ⟨A, c, rfl, -⟩ := hs
  obtain ⟨A1, c1, rfl, hm1, hc1⟩ := h1
  obtain ⟨A2, c2, rfl, hm2, hc2⟩ := h2
  unfold maxLen at hm1 hm2
  simp only [Qu.v] at HR HI1 HI2 HE HS hw1 hB ⊢
  have HC1 := Lib.hid hc1
  have HC2 := Lib.hid hc2
  have HW := Lib.hid hw1
  have HBQ := Lib.hid hbq
  have hB2 := hB.lt
  have b4 := hB.cell 4 rfl
  have b0 := hB.cell 0 rfl
  have b1 := hB.cell 1 rfl
  have b2 := hB.cell 2 rfl
  have b3 := hB.cell 3 rfl
  clear hw1 hbq hc1 hc2
  have kc := fun (w : World) (C : Array Value) (n c : Nat) => Lib.run_convert_bytes_const (P := Try.prog) w 35 5 C n c Try.underlying35 Try.underlying5
  go_enter Try.func3, Try.ntmps3
  go_upto_region 1 with (fail)
  rw [← HW.out, ← HBQ.out]
  clear HW
  by_cases hl : 40 < l.length
  · have hl' : (40 : Int) < (l.length : Int) := by omega
    go_wp2_with fail
    refine (known_any w1).mono ?_
    rintro e w3 ⟨rfl, hf⟩
    go_wp2_with fail
    go_ret
    exact ⟨rfl, ((hf1.tr hf).none_up).below (Nat.le_refl _)⟩
  have hl' : ¬ (40 : Int) < (l.length : Int) := by omega
  go_wp2_with fail
  refine (HR.out w1 (HS.out.keep hf1.none_up) (by omega)).mono ?_
  rintro e w2 ⟨rfl, hf2⟩
  have hf12 := hf1.tr hf2
  have hB2' := hB.fr hf2 (fun h => h)
  clear b0 b1 b2 b3 b4 hB hf2
  by_cases hE0 : ¬ E = 0
  · have hE1 : (E != 0) = true := by simp [hE0]
    go_wp2_with fail
    refine (known_any w2).mono ?_
    rintro e w3 ⟨rfl, hf⟩
    go_wp2_with fail
    go_ret
    exact ⟨rfl, ((hf12.tr hf).none_up).below (Nat.le_refl _)⟩
  have hE0 : E = 0 := by omega
  subst hE0
  have hnn := qn12 (q := ⟨k, n, o, t, l⟩) HE.out.symm
  simp only at hnn
  obtain ⟨N, rfl⟩ : ∃ N : Nat, n = (N : Int) := ⟨n.toNat, by omega⟩
  have hN12 : N ≤ 12 := by omega
  clear hnn
  obtain ⟨w3, hw3⟩ : ∃ w3, w3 = w2.alloc (.cells #[.slice none 0 0, .slice none 0 0, .slice none 0 0, .slice none 0 0, .slice none 0 0, .slice none 0 0, .slice none 0 0, .slice none 0 0, .slice none 0 0, .slice none 0 0, .slice none 0 0, .slice none 0 0] 30) := ⟨_, rfl⟩
  obtain ⟨w4, hw4⟩ : ∃ w4, w4 = w3.alloc (.cells #[.int .u64 0, .int .i64 0, .int .u64 0, .int .i64 0, .int .u64 0, .int .i64 0, .int .u64 0, .int .i64 0, .int .u64 0, .int .i64 0, .int .u64 0, .int .i64 0, .int .u64 0, .int .i64 0, .int .u64 0, .int .i64 0, .int .u64 0, .int .i64 0, .int .u64 0, .int .i64 0, .int .u64 0, .int .i64 0, .int .u64 0, .int .i64 0] 34) := ⟨_, rfl⟩
  have hf3 : Fr (fun _ => False) w2 w3 := by rw [hw3]; exact (Fr.refl _ w2).alloc _
  have hf4 : Fr (fun _ => False) w3 w4 := by rw [hw4]; exact (Fr.refl _ w3).alloc _
  obtain ⟨vb, hvb⟩ : ∃ b, b = w2.heap.size := ⟨_, rfl⟩
  obtain ⟨pb, hpb⟩ : ∃ b, b = w3.heap.size := ⟨_, rfl⟩
  have hz3 : w3.heap.size = w2.heap.size + 1 := by rw [hw3]; simp
  have hV3 : Blk w3 vb 30 (Array.replicate 12 (.slice none 0 0)) := by rw [hw3, hvb]; exact Blk.new _ _ _
  have hP4 : Blk w4 pb 34 #[.int .u64 0, .int .i64 0, .int .u64 0, .int .i64 0, .int .u64 0, .int .i64 0, .int .u64 0, .int .i64 0, .int .u64 0, .int .i64 0, .int .u64 0, .int .i64 0, .int .u64 0, .int .i64 0, .int .u64 0, .int .i64 0, .int .u64 0, .int .i64 0, .int .u64 0, .int .i64 0, .int .u64 0, .int .i64 0, .int .u64 0, .int .i64 0] := by rw [hw4, hpb]; exact Blk.new _ _ _
  have hO : SfO W w4 bq vb pb ⟨k, N, o, t, l⟩ (.slice A l.length c) 0 (fun _ => none) (.slice none 0 0) [] := by
    refine ⟨((hf12.tr hf3).tr hf4).none_up, (hB2'.fr hf3 (fun h => h)).fr hf4 (fun h => h), ⟨_, hV3.fr hf4 (fun h => h), by simp, fun i hi => ⟨_, reps 12 _ hi, VtL.nil _ _⟩⟩, ⟨_, hP4, rfl, fun i hi => ?_⟩, World.ownsRow_nil _ _ _ _, by rw [hvb]; exact hf12.size, by rw [hpb]; exact (hf12.tr hf3).size⟩
    refine ⟨0, 0, ?_, ?_, by decide⟩
    · match i, hi with
      | 0, _ | 1, _ | 2, _ | 3, _ | 4, _ | 5, _ | 6, _ | 7, _ | 8, _ | 9, _ | 10, _ | 11, _ => rfl
    · match i, hi with
      | 0, _ | 1, _ | 2, _ | 3, _ | 4, _ | 5, _ | 6, _ | 7, _ | 8, _ | 9, _ | 10, _ | 11, _ => rfl
  have H34 := Lib.hid (And.intro hw3 hw4)
  have HB34 := Lib.hid (And.intro hvb (And.intro hpb hz3))
  clear hw3 hw4 hf3 hf4 hvb hpb hz3 hV3 hP4 hf12 hB2' hf1 hB2
  go_upto_region 5 with (fail)
  rw [← H34.out.1, ← HB34.out.2.2, ← H34.out.2, ← HB34.out.1, ← HB34.out.2.1]
  clear H34 HB34
  go_wp2_with fail
  go_loopg [9, 10, 11] l1.length (fun g x9 x10 x11 wr => ∃ (i : Nat) (won : Bool) (fa : Option Addr) (fc : Nat) (first : List UInt8) (vt : Nat → Option Vt), i + g = l1.length ∧ x11 = .int .i64 i ∧ x9 = .bool won ∧ x10 = .slice fa first.length fc ∧ i ≤ 30 ∧ VtI i vt ∧ SafeI i ⟨k, N, o, t, l⟩ vt won first ∧ SfO W wr bq vb pb ⟨k, N, o, t, l⟩ (.slice A l.length c) i vt (.slice fa first.length fc) first)
  case atStart => exact ⟨0, false, none, 0, [], fun _ => none, by omega, rfl, rfl, rfl, by omega, (fun n v hv => (by cases hv)), (fun h => (by cases h)), hO⟩
  case round =>
    clear hO
    obtain ⟨i, won, fa, fc, first, vt, hi, rfl, rfl, rfl, hi30, hvi, hsi, hO⟩ := hrel
    have HI := Lib.hid hi
    have HVI := Lib.hid hvi
    have HSI := Lib.hid hsi
    have hi' : i ≤ l1.length := by omega
    clear hi hvi hsi
    by_cases hlt : i < l1.length ∧ i < 30
    · obtain ⟨hlt, hlt2⟩ := hlt
      have hlt3 : (i : Int) < 30 := by omega
      obtain ⟨⟨X1, X2⟩, hy⟩ : ∃ y, l1[i]? = some y := ⟨_, List.getElem?_eq_getElem hlt⟩
      obtain ⟨bs, offs, rfl, hset⟩ := HC1.out i _ hy
      have hset1 := hset.2.2.1
      have hset2 := hset.2.2.2.1
      simp only at hset1 hset2
      have HSet := Lib.hid hset
      clear hset hy
      have hkeepS : ∀ wx, Fr (fun k => W.heap.size ≤ k) W wx → wx.cell? ⟨bs, offs + i * 2, none⟩ = some (.int .u32 X1) ∧ wx.cell? ⟨bs, offs + i * 2 + 1, none⟩ = some (.int .u32 X2) := fun wx hx =>
        ⟨hx.cell HSet.out.1 (by have := HSet.out.2.2.2.2; show ¬ W.heap.size ≤ bs; omega), hx.cell HSet.out.2.1 (by have := HSet.out.2.2.2.2; show ¬ W.heap.size ≤ bs; omega)⟩
      have HKS := Lib.hid hkeepS
      clear hkeepS
      have hi0 : (0 : Int) ≤ (i : Int) := by omega
      go_upto_region 11 with (fail)
      rw [show (i : Int) / 2 + 1 = ((ballN i : Nat) : Int) by unfold ballN; omega, show (i : Int) % 2 = ballD i by unfold ballD; omega]
      obtain ⟨w1, hw1⟩ : ∃ w1, w1 = wr.alloc (.cells #[.int .u64 (ballN i : Nat), .int .i64 (ballD i)] 33) := ⟨_, rfl⟩
      have hf1 : Fr (fun _ => False) wr w1 := by rw [hw1]; exact (Fr.refl _ wr).alloc _
      obtain ⟨bb, hbb⟩ : ∃ b, b = wr.heap.size := ⟨_, rfl⟩
      have hB1 : Blk w1 bb 33 #[.int .u64 (ballN i : Nat), .int .i64 (ballD i)] := by rw [hw1, hbb]; exact Blk.new _ _ _
      have hO1 := hO.up hf1
      have hbn64 : ballN i < 18446744073709551616 := by unfold ballN; omega
      have HW1 := Lib.hid hw1
      have HBB := Lib.hid hbb
      clear hw1 hf1 hbb hO
      rw [← HW1.out, ← HBB.out]
      clear HW1 HBB
      have b0 := hO1.q.cell 0 rfl
      have b1 := hO1.q.cell 1 rfl
      have b2 := hO1.q.cell 2 rfl
      have b3 := hO1.q.cell 3 rfl
      have b4 := hO1.q.cell 4 rfl
      have d0 := hB1.cell 0 rfl
      have d1 := hB1.cell 1 rfl
      go_wp2_with fail
      refine (new_lw W w1 hO1.fr ⟨k, N, o, t, l⟩ _ (ballN i) (ballD i) 1 (HS.out.keep hO1.fr) HNil.out (by show l.length ≤ 1000; omega) HE.out.symm (ball_right i) hbn64 (by omega) (by omega)).mono ?_
      rintro e w2 ⟨r, G, rfl, hL, hf2, hge⟩
      have hR := hO1.begin_ hL hf2 hge
      have hB2 := hB1.fr hf2 (fun h => h)
      have hnb : ¬ G bb := fun h => by have := hge _ h; have := hB1.lt; omega
      have HP0 := Lib.hid (SfP.new ⟨k, N, o, t, l⟩ i X1 vt)
      generalize newP ⟨k, N, o, t, l⟩ (ballN i) (ballD i) 1 = p0 at hR HP0
      clear b0 b1 b2 b3 b4 d0 d1 hB1 hO1 hL hf2 hge
      go_wp2_with fail
      go_loopg [15] N (fun g x15 wr => ∃ (m cc : Nat) (p : Ps) (G : Nat → Prop) (all : List Vt), m + g = N ∧ x15 = .int .i64 m ∧ cc ≤ m ∧ SfP p ⟨k, N, o, t, l⟩ i m X1 vt all ∧ SfR W wr r bq vb pb ⟨k, N, o, t, l⟩ (.slice A l.length c) i vt (.slice fa first.length fc) first p cc G ∧ Blk wr bb 33 #[.int .u64 (ballN i : Nat), .int .i64 (ballD i)] ∧ ¬ G bb)
      case atStart => exact ⟨0, 0, p0, G, [], by omega, rfl, by omega, HP0.out, hR, hB2, hnb⟩
      case round =>
        clear hR HP0 hB2 hnb p0 G
        obtain ⟨m, cc, p, G, all, hm, rfl, hcc, hp, hR, hB, hnb⟩ := hrel
        have HM := Lib.hid hm
        have HP := Lib.hid hp
        have hm' : m ≤ N := by omega
        clear hm hp
        have b1 := hR.q.cell 1 rfl
        simp only at b1
        by_cases hmN : m < N
        · have hm12 : m < 12 := by omega
          have hmi : (m : Int) < 12 := by omega
          have x1 := (HKS.out wr hR.l.fr).1
          have hii1 : (i : Int) < (l1.length : Int) := by omega
          go_wp2_with fail
          refine (has_any X1 m hset1 hm12 wr).mono ?_
          rintro e w3 ⟨rfl, rfl⟩
          cases hb : X1.testBit m with
          | false =>
            have HSk := Lib.hid (HP.out.skip hb)
            clear hb
            go_wp2_with fail
            go_roundg (N - (m + 1))
            case measure => have := HM.out; omega
            case rel => exact ⟨m + 1, cc, p, G, all, by have := HM.out; omega, by go_num, by omega, HSk.out, hR, hB, hnb⟩
          | true =>
            have HB := Lib.hid hb
            clear hb
            have d0 := hB.cell 0 rfl
            have d1 := hB.cell 1 rfl
            obtain ⟨y0, y1, e0, e1, -⟩ := hR.m.at hm12
            have f0 := hR.m.frozen (m * 2)
            have f1 := hR.m.frozen (m * 2 + 1)
            obtain ⟨w4, hw4⟩ : ∃ w4, w4 = (wr.setCell ⟨pb, m * 2, none⟩ (.int .u64 (ballN i : Nat))).setCell ⟨pb, m * 2 + 1, none⟩ (.int .i64 (ballD i)) := ⟨_, rfl⟩
            have hR4 : SfR W w4 r bq vb pb ⟨k, N, o, t, l⟩ (.slice A l.length c) i vt (.slice fa first.length fc) first p cc G := by rw [hw4]; exact hR.putP hm12
            have hB4 : Blk w4 bb 33 #[.int .u64 (ballN i : Nat), .int .i64 (ballD i)] := by
              obtain ⟨cp, hcp⟩ := hR.m.blk
              rw [hw4]
              exact (hB.far (p := ⟨pb, m * 2, none⟩) (hB.ne_ hcp (by decide)) _).far (p := ⟨pb, m * 2 + 1, none⟩) (hB.ne_ hcp (by decide)) _
            have HW4 := Lib.hid hw4
            clear hw4
            go_upto_region 19 with (fail)
            rw [← HW4.out]
            clear HW4 d0 d1 e0 e1 f0 f1 x1 b1 hR hB
            obtain ⟨sv, v0, hvl⟩ := hR4.v.at hm12
            have hvl := hvl.mono (Y := G) (fun k hk => .inr (.inr hk))
            have hvl' := hvl
            obtain ⟨⟨Av, cv, rfl, -⟩, -⟩ := hvl'
            have HVL := Lib.hid hvl
            have hlen : (vt m).toList.length ≤ 1 := by cases vt m <;> simp
            have hpe := HP.out.prmE HVI.out (n := m) (by show m < (N : Int).toNat; omega)
            have HPE := Lib.hid hpe
            have HP5 := Lib.hid (HP.out.prm HVI.out (n := m) (by show m < (N : Int).toNat; omega) HB.out)
            clear hvl hpe
            go_wp2_with fail
            refine (prm_lw hR4.l m _ (vt m).toList (by unfold maxLen; omega) HVL.out).mono ?_
            rintro e w5 ⟨rfl, G5, hL5, hX5, hf5⟩
            rw [HPE.out]
            have hR5 := hR4.next hL5 hX5 hf5
            have hB5 := hB4.fr hf5 hnb
            have hnb5 := hX5.not hnb hB4.lt
            generalize prmP p (m : Int) (vt m).toList = p5 at hR5 HP5
            obtain ⟨c5, hc5⟩ : ∃ c5, c5 = cc + (vt m).toList.length := ⟨_, rfl⟩
            rw [← hc5] at hR5
            have hc5' : c5 ≤ m + 1 := by omega
            clear hR4 hB4 hL5 hX5 hf5 v0 hc5 HPE hnb
            go_wp2_with fail
            go_roundg (N - (m + 1))
            case measure => have := HM.out; omega
            case rel => exact ⟨m + 1, c5, p5, G5, _, by have := HM.out; omega, by go_num, by omega, HP5.out, hR5, hB5, hnb5⟩
        · obtain rfl : N = m := by omega
          go_wp2_with fail
          refine (ready_any r p _ _ wr hR.l.pr).mono ?_
          rintro e w3 ⟨rfl, hf3⟩
          have hR3 := hR.up hf3
          have hB3 := hB.fr hf3 (fun h => h)
          clear b1 hR hB hf3
          cases hr : readyB p with
          | false =>
            clear hr
            go_wp2_with fail
            go_roundg (l1.length - (i + 1))
            case measure => have := HI.out; omega
            case rel => exact ⟨i + 1, won, fa, fc, first, vt, by have := HI.out; omega, by go_num, rfl, rfl, by omega, HVI.out.up, HSI.out.up, hR3.end_⟩
          | true =>
            have HR := Lib.hid hr
            clear hr
            have hSame := fun own hw => (show SfP p ⟨k, N, o, t, l⟩ i ((N : Int).toNat) X1 vt all from HP.out).same HR.out HSI.out hw own
            have HSame := Lib.hid hSame
            have hPro := fun own ho => HP.out.pro hR3.l.pr.wf HR.out own ho
            have HPro := Lib.hid hPro
            clear hSame hPro
            have hcs : (∃ rw_, l2[i]? = some rw_ ∧ rw_.length ≤ 100) ∨ (∃ rw_, l2[i]? = some rw_ ∧ ¬ (rw_.length : Int) ≤ 100) ∨ ¬ i < l2.length := by
              by_cases h : i < l2.length
              · by_cases h2 : l2[i].length ≤ 100
                · exact .inl ⟨_, List.getElem?_eq_getElem h, h2⟩
                · exact .inr (.inl ⟨_, List.getElem?_eq_getElem h, by omega⟩)
              · exact .inr (.inr h)
            rcases hcs with ⟨own, hrow, ho100⟩ | ⟨own0, hrow, ho101⟩ | hrow
            · have hil : i < l2.length := (List.getElem?_eq_some_iff.1 hrow).1
              obtain ⟨br, offr, rfl, hrw⟩ := HC2.out i _ hrow
              obtain ⟨sr, r0, hby, hrl, hblt⟩ := hrw
              have hby3 := hby.inW hR3.l
              have r1 := hR3.l.fr.cell r0 (by show ¬ W.heap.size ≤ br; omega)
              obtain ⟨Ar, cr, rfl, -, -⟩ := hby
              have ho100i : (own.length : Int) ≤ 100 := by omega
              have hi2 : (i : Int) < (l2.length : Int) := by omega
              clear hrow r0 hrl hblt
              go_upto_region 25 with (fail)
              clear r1 ho100i hi2
              go_wp2_with fail
              obtain ⟨e1, V, e2, x1, x2, x3, x4, x5, e5⟩ := HPro.out own ho100
              have hsame : won = true → V.v = first := fun hw => x4.trans (HSame.out own hw)
              have hQ5 := HP.out.q
              have hSl := HP.out.sl
              refine (pro_lw hR3.l 1 (by omega) _ own (by unfold maxLen; omega) hby3).mono ?_
              rintro e w5 ⟨va, vc, G5, rfl, ho5, hL5, hX5, hn5, hf5⟩
              rw [e1, e2]
              rw [e2] at ho5 hn5
              rw [e5] at hL5
              have hR5 := hR3.next hL5 hX5 hf5
              have hB5 := hB3.fr hf5 hnb
              have hnb5 := hX5.not hnb hB3.lt
              have HSame5 := Lib.hid (And.intro hsame (And.intro x1 (And.intro x2 (And.intro x3 x5))))
              have hVok : VtOk V := ⟨by rw [x1]; omega, by rw [x2]; exact hbn64, by rw [x3]; unfold ballD; omega, by rw [x3]; unfold ballD; omega, by omega⟩
              have HVok := Lib.hid hVok
              have hA0 : SfA ({ p with sl := upd p.sl 1 (V, 0) } : Ps) ⟨k, N, o, t, l⟩ 0 X2 V := ⟨hQ5, 0, by simp [upd], fun j => by simp⟩
              have HA0 := Lib.hid hA0
              generalize ({ p with sl := upd p.sl 1 (V, 0) } : Ps) = p5 at hR5 HA0
              simp only [vtV]
              clear e1 e2 e5 x1 x2 x3 x4 x5 hQ5 hSl hsame hL5 hX5 hf5 hR3 hB3 hnb hVok hA0 hby3 HPro HSame
              obtain ⟨w6, hw6⟩ : ∃ w6, w6 = w5.alloc (.cells #[.int .u64 V.s, .int .u64 V.n, .int .i64 V.d, .slice va V.v.length vc] 45) := ⟨_, rfl⟩
              have hf6 : Fr (fun _ => False) w5 w6 := by rw [hw6]; exact (Fr.refl _ w5).alloc _
              obtain ⟨bv, hbv⟩ : ∃ b, b = w5.heap.size := ⟨_, rfl⟩
              have hM6 : SfV W w6 r bq vb pb bb bv ⟨k, N, o, t, l⟩ (.slice A l.length c) i vt (.slice fa first.length fc) first V (.slice va V.v.length vc) p5 (cc + 1) G5 :=
                ⟨hR5.up hf6, hB5.fr hf6 (fun h => h), hnb5, by rw [hw6, hbv]; exact Blk.new _ _ _, by rw [hbv]; exact hR5.l.not_new (Nat.le_refl _), own_fr (own_base ho5) hf6 (fun _ _ h => h), hn5⟩
              have HW6 := Lib.hid hw6
              have HBV := Lib.hid hbv
              obtain ⟨c6, hc6⟩ : ∃ c6, c6 = cc + 1 := ⟨_, rfl⟩
              rw [← hc6] at hM6
              have hc6' : c6 ≤ 13 := by omega
              clear hw6 hf6 hbv hR5 hB5 hnb5 ho5 hn5 hc6 hcc HP HR HM hm'
              go_upto_region 26 with (fail)
              rw [← HW6.out, ← HBV.out]
              clear HW6 HBV
              go_wp2_with fail
              go_loopg [19] N (fun g x19 wr => ∃ (m : Nat) (p : Ps) (G : Nat → Prop), m + g = N ∧ x19 = .int .i64 m ∧ SfA p ⟨k, N, o, t, l⟩ m X2 V ∧ SfV W wr r bq vb pb bb bv ⟨k, N, o, t, l⟩ (.slice A l.length c) i (accVt vt V m X2) (.slice fa first.length fc) first V (.slice va V.v.length vc) p c6 G)
              case atStart => exact ⟨0, p5, G5, by omega, rfl, HA0.out, by rw [show accVt vt V 0 X2 = vt by funext j; unfold accVt; simp]; exact hM6⟩
              case round =>
                clear hM6 HA0 p5 G5 p G all
                obtain ⟨m, p, G, hm, rfl, hp, hM⟩ := hrel
                have HM := Lib.hid hm
                have HP := Lib.hid hp
                have hm' : m ≤ N := by omega
                clear hm hp
                have b1 := hM.r.q.cell 1 rfl
                simp only at b1
                by_cases hmN : m < N
                · have hm12 : m < 12 := by omega
                  have hmi : (m : Int) < 12 := by omega
                  have hmi0 : (0 : Int) ≤ (m : Int) := by omega
                  have z1 := (HKS.out wr hM.r.l.fr).2
                  have hii1 : (i : Int) < (l1.length : Int) := by omega
                  have d0 := hM.b.cell 0 rfl
                  have d1 := hM.b.cell 1 rfl
                  obtain ⟨y0, y1, e0, e1, hle⟩ := hM.r.m.at hm12
                  have HLe := Lib.hid hle
                  have hf := (Fr.refl (fun _ => False) wr).drew
                  clear hle
                  cases hb : X2.testBit m with
                  | false =>
                    have HB := Lib.hid hb
                    have hno : ∀ w, Calls Try.prog 13 #[.int .u32 (X2 : Int), .int .i64 (m : Int)] w fun e w' => e = .returned (.bool false) ∧ w = w' := fun w => by rw [← HB.out]; exact has_any X2 m hset2 hm12 w
                    have HNo := Lib.hid hno
                    clear hb hno hf
                    go_upto_region 31 with (fail)
                    go_quiet ((go_at_call 13; exact quiet_left (HNo.out _)))
                    have hf := (Fr.refl (fun _ => False) wr).drewN nq
                    have hM4 := hM.up hf
                    clear hM hf z1 d0 d1 e0 e1 b1
                    go_wp2_with fail
                    go_roundg (N - (m + 1))
                    case measure => have := HM.out; omega
                    case rel => exact ⟨m + 1, p, G, by have := HM.out; omega, by go_num, HP.out.skip HB.out, by rw [accVt_skip HB.out]; exact hM4⟩
                  | true =>
                    have HB := Lib.hid hb
                    clear hb
                    go_upto_region 31 with (fail)
                    first
                      | go_region_held3 (fun wx => wx.cell? ⟨bs, offs + i * 2 + 1, none⟩ = some (.int .u32 X2) ∧ wx.cell? ⟨bb, 0, none⟩ = some (.int .u64 (ballN i : Nat)) ∧ wx.cell? ⟨bb, 1, none⟩ = some (.int .i64 (ballD i)) ∧ wx.cell? ⟨pb, m * 2, none⟩ = some (.int .u64 y0) ∧ wx.cell? ⟨pb, m * 2 + 1, none⟩ = some (.int .i64 y1)) (first | exact ⟨z1, d0, d1, e0, e1⟩ | exact hS4)
                        ((first
                          | (go_at_call 13
                             refine (has_any X2 m hset2 hm12 _).mono ?_
                             rintro e w4 ⟨rfl, rfl⟩
                             rw [HB.out]
                             have hS4 := And.intro (hf.cell z1 (fun h => h)) (And.intro (hf.cell d0 (fun h => h)) (And.intro (hf.cell d1 (fun h => h)) (And.intro (hf.cell e0 (fun h => h)) (hf.cell e1 (fun h => h))))))
                          | (go_at_call 17
                             refine (rless_any _ _ y0 y1 _).mono ?_
                             rintro e w4 ⟨rfl, hf4⟩
                             rw [HLe.out]
                             replace hf := hf.tr hf4
                             have hS4 := And.intro (hf.cell z1 (fun h => h)) (And.intro (hf.cell d0 (fun h => h)) (And.intro (hf.cell d1 (fun h => h)) (And.intro (hf.cell e0 (fun h => h)) (hf.cell e1 (fun h => h))))))))
                      | fail
                    all_goals
                      have hM4 := hM.up hf
                      clear hM hf hS4 z1 d0 d1 e0 e1 b1
                      obtain ⟨w3, hw3⟩ : ∃ w3, w3 = w4 := ⟨_, rfl⟩
                      rw [← hw3] at hM4 ⊢
                      clear hw3
                      have d0 := hM4.b.cell 0 rfl
                      have d1 := hM4.b.cell 1 rfl
                      obtain ⟨y0, y1, e0, e1, -⟩ := hM4.r.m.at hm12
                      have f0 := hM4.r.m.frozen (m * 2)
                      have f1 := hM4.r.m.frozen (m * 2 + 1)
                      obtain ⟨w5, hw5⟩ : ∃ w5, w5 = (w3.setCell ⟨pb, m * 2, none⟩ (.int .u64 (ballN i : Nat))).setCell ⟨pb, m * 2 + 1, none⟩ (.int .i64 (ballD i)) := ⟨_, rfl⟩
                      have hM5 : SfV W w5 r bq vb pb bb bv ⟨k, N, o, t, l⟩ (.slice A l.length c) i (accVt vt V m X2) (.slice fa first.length fc) first V (.slice va V.v.length vc) p c6 G := by rw [hw5]; exact hM4.putP hm12
                      have HW5 := Lib.hid hw5
                      clear hw5
                      go_upto_region 33 with (fail)
                      rw [← HW5.out]
                      clear HW5 d0 d1 e0 e1 f0 f1 hM4
                      have d0 := hM5.v.cell 0 rfl
                      have d1 := hM5.v.cell 1 rfl
                      have d2 := hM5.v.cell 2 rfl
                      have d3 := hM5.v.cell 3 rfl
                      obtain ⟨w6, hw6⟩ : ∃ w6, w6 = w5.alloc (.cells #[.int .u64 V.s, .int .u64 V.n, .int .i64 V.d, .slice va V.v.length vc] 45) := ⟨_, rfl⟩
                      have hf6 : Fr (fun _ => False) w5 w6 := by rw [hw6]; exact (Fr.refl _ w5).alloc _
                      obtain ⟨bl, hbl⟩ : ∃ b, b = w5.heap.size := ⟨_, rfl⟩
                      have hL6 : Blk w6 bl 45 #[.int .u64 V.s, .int .u64 V.n, .int .i64 V.d, .slice va V.v.length vc] := by rw [hw6, hbl]; exact Blk.new _ _ _
                      have hM6 := hM5.up hf6
                      obtain ⟨cv6, hcv6⟩ := hM6.r.v.blk
                      obtain ⟨cp6, hcp6⟩ := hM6.r.m.blk
                      have hVL : VtL w6 (.slice (some ⟨bl, 0, none⟩) 1 1) [V] (fun k => k = vb ∨ k = pb ∨ G k) :=
                        HVok.out.one hL6 (Byt.of_own hM6.o) (fun h => by
                          rcases h with h | h | h
                          · exact hL6.ne_ hcv6 (by decide) h
                          · exact hL6.ne_ hcp6 (by decide) h
                          · rw [hbl] at h; exact hM5.r.l.not_new (Nat.le_refl _) h) (fun g hg _ h => by
                          rcases h with h | h | h
                          · exact own_blk_ne hM6.o hcv6 (by decide) g hg h
                          · exact own_blk_ne hM6.o hcp6 (by decide) g hg h
                          · exact hM6.no g hg h) 1
                      obtain ⟨sv0, v0, -⟩ := hM6.r.v.at hm12
                      have f0 := hM6.r.v.frozen m
                      obtain ⟨w7, hw7⟩ : ∃ w7, w7 = w6.setCell ⟨vb, m, none⟩ (.slice (some ⟨bl, 0, none⟩) 1 1) := ⟨_, rfl⟩
                      have hM7 : SfV W w7 r bq vb pb bb bv ⟨k, N, o, t, l⟩ (.slice A l.length c) i (accVt vt V (m + 1) X2) (.slice fa first.length fc) first V (.slice va V.v.length vc) p c6 G := by rw [hw7, accVt_put HB.out]; exact hM6.putV hm12 hVL
                      have HW6 := Lib.hid hw6
                      have HBL := Lib.hid hbl
                      have HW7 := Lib.hid hw7
                      rw [hw6] at v0 f0
                      clear hw6 hbl hw7 hf6 hL6 hM5 hM6 hVL hcv6 hcp6
                      go_upto_region 34 with (fail)
                      rw [← HW6.out, ← HBL.out, ← HW7.out]
                      clear HW6 HBL HW7 v0 f0 d0 d1 d2 d3
                      have hae := HP.out.accE (by show m < (N : Int).toNat; omega)
                      have HAE := Lib.hid hae
                      have HP8 := Lib.hid (HP.out.acc (by show m < (N : Int).toNat; omega) HB.out)
                      clear hae
                      go_wp2_with fail
                      refine (acc_lw hM7.r.l m 1 (by omega)).mono ?_
                      rintro e w8 ⟨rfl, hL8, hf8⟩
                      rw [HAE.out]
                      have hM8 := hM7.next hL8 (Nx.refl _ _ _) hf8
                      generalize accP p (m : Int) 1 = p8 at hM8 HP8
                      clear hM7 hL8 hf8 HAE
                      go_wp2_with fail
                      go_roundg (N - (m + 1))
                      case measure => have := HM.out; omega
                      case rel => exact ⟨m + 1, p8, G, by have := HM.out; omega, by go_num, HP8.out, hM8⟩
                · obtain rfl : N = m := by omega
                  have hch := (show SfA p ⟨k, N, o, t, l⟩ ((N : Int).toNat) X2 V from HP.out).ch
                  have HCh := Lib.hid hch
                  clear hch
                  go_wp2_with fail
                  refine (chosen_any r p _ _ 1 (by omega) wr hM.r.l.pr).mono ?_
                  rintro e w7 ⟨va7, vc7, rfl, ho7, hf7⟩
                  rw [HCh.out] at ho7 ⊢
                  have hM7 := hM.up hf7
                  have ho7 := own_base ho7
                  clear hM hf7 b1 HCh
                  cases hq : isQ ⟨k, N, o, t, l⟩ true X2.testBit with
                  | false =>
                    clear ho7 hq
                    simp only [Bool.false_eq_true, if_false, Option.getD_none, Option.isSome_none, List.length_nil]
                    have hO7 := hM7.r.end_
                    go_wp2_with fail
                    go_roundg (l1.length - (i + 1))
                    case measure => have := HI.out; omega
                    case rel => exact ⟨i + 1, won, fa, fc, first, accVt vt V N X2, by have := HI.out; omega, by go_num, rfl, rfl, by omega, SafeI.vti HVI.out HSame5.out.2, HSI.out.acc ⟨HSame5.out.2.2.1, HSame5.out.2.2.2.1⟩ HSame5.out.1, hO7⟩
                  | true =>
                    have HQ := Lib.hid hq
                    rw [hq] at ho7
                    clear hq
                    simp only [if_true, Option.getD_some, Option.isSome_some] at ho7 ⊢
                    have hO7 := hM7.r.end_
                    have hO8 : SfO W w7 bq vb pb ⟨k, N, o, t, l⟩ (.slice A l.length c) (i + 1) (accVt vt V N X2) (.slice va7 V.v.length vc7) V.v := ⟨hO7.fr, hO7.q, hO7.v, hO7.m, ho7, hO7.lv, hO7.lp⟩
                    have HWon := Lib.hid (SafeI.won (q := ⟨k, N, o, t, l⟩) HVI.out ⟨HSame5.out.2.2.1, HSame5.out.2.2.2.1⟩ HQ.out)
                    cases won with
                    | false =>
                      go_wp2_with fail
                      go_roundg (l1.length - (i + 1))
                      case measure => have := HI.out; omega
                      case rel => exact ⟨i + 1, true, va7, vc7, V.v, accVt vt V N X2, by have := HI.out; omega, by go_num, rfl, rfl, by omega, SafeI.vti HVI.out HSame5.out.2, HWon.out, hO8⟩
                    | true =>
                      have hbf := Byt.of_own hM7.r.f
                      have hbv7 := Byt.of_own ho7
                      go_wp2_with fail
                      refine (same_any _ _ V.v first w7 hbv7 hbf).mono ?_
                      rintro e w8 ⟨rfl, rfl⟩
                      rw [HSame5.out.1 (by simp), decide_eq_true rfl]
                      rw [HSame5.out.1 (by simp)] at hO8 HWon
                      go_wp2_with fail
                      go_roundg (l1.length - (i + 1))
                      case measure => have := HI.out; omega
                      case rel => exact ⟨i + 1, true, va7, vc7, first, accVt vt V N X2, by have := HI.out; omega, by go_num, rfl, rfl, by omega, SafeI.vti HVI.out HSame5.out.2, HWon.out, hO8⟩
            · have hil : i < l2.length := (List.getElem?_eq_some_iff.1 hrow).1
              obtain ⟨br, offr, rfl, hrw⟩ := HC2.out i _ hrow
              obtain ⟨sr, r0, hby, hrl, hblt⟩ := hrw
              have r1 := hR3.l.fr.cell r0 (by show ¬ W.heap.size ≤ br; omega)
              obtain ⟨Ar, cr, rfl, -, -⟩ := hby
              have hi2 : (i : Int) < (l2.length : Int) := by omega
              have hby3 := byt_nil w3
              have ho100 : ([] : List UInt8).length ≤ 100 := by simp
              clear hrow r0 hrl hblt
              go_upto_region 25 with (fail)
              clear r1 hi2
              go_wp2_with fail
              obtain ⟨e1, V, e2, x1, x2, x3, x4, x5, e5⟩ := HPro.out [] ho100
              have hsame : won = true → V.v = first := fun hw => x4.trans (HSame.out [] hw)
              have hQ5 := HP.out.q
              have hSl := HP.out.sl
              refine (pro_lw hR3.l 1 (by omega) _ [] (by unfold maxLen; omega) hby3).mono ?_
              rintro e w5 ⟨va, vc, G5, rfl, ho5, hL5, hX5, hn5, hf5⟩
              rw [e1, e2]
              rw [e2] at ho5 hn5
              rw [e5] at hL5
              have hR5 := hR3.next hL5 hX5 hf5
              have hB5 := hB3.fr hf5 hnb
              have hnb5 := hX5.not hnb hB3.lt
              have HSame5 := Lib.hid (And.intro hsame (And.intro x1 (And.intro x2 (And.intro x3 x5))))
              have hVok : VtOk V := ⟨by rw [x1]; omega, by rw [x2]; exact hbn64, by rw [x3]; unfold ballD; omega, by rw [x3]; unfold ballD; omega, by omega⟩
              have HVok := Lib.hid hVok
              have hA0 : SfA ({ p with sl := upd p.sl 1 (V, 0) } : Ps) ⟨k, N, o, t, l⟩ 0 X2 V := ⟨hQ5, 0, by simp [upd], fun j => by simp⟩
              have HA0 := Lib.hid hA0
              generalize ({ p with sl := upd p.sl 1 (V, 0) } : Ps) = p5 at hR5 HA0
              simp only [vtV]
              clear e1 e2 e5 x1 x2 x3 x4 x5 hQ5 hSl hsame hL5 hX5 hf5 hR3 hB3 hnb hVok hA0 hby3 HPro HSame
              obtain ⟨w6, hw6⟩ : ∃ w6, w6 = w5.alloc (.cells #[.int .u64 V.s, .int .u64 V.n, .int .i64 V.d, .slice va V.v.length vc] 45) := ⟨_, rfl⟩
              have hf6 : Fr (fun _ => False) w5 w6 := by rw [hw6]; exact (Fr.refl _ w5).alloc _
              obtain ⟨bv, hbv⟩ : ∃ b, b = w5.heap.size := ⟨_, rfl⟩
              have hM6 : SfV W w6 r bq vb pb bb bv ⟨k, N, o, t, l⟩ (.slice A l.length c) i vt (.slice fa first.length fc) first V (.slice va V.v.length vc) p5 (cc + 1) G5 :=
                ⟨hR5.up hf6, hB5.fr hf6 (fun h => h), hnb5, by rw [hw6, hbv]; exact Blk.new _ _ _, by rw [hbv]; exact hR5.l.not_new (Nat.le_refl _), own_fr (own_base ho5) hf6 (fun _ _ h => h), hn5⟩
              have HW6 := Lib.hid hw6
              have HBV := Lib.hid hbv
              obtain ⟨c6, hc6⟩ : ∃ c6, c6 = cc + 1 := ⟨_, rfl⟩
              rw [← hc6] at hM6
              have hc6' : c6 ≤ 13 := by omega
              clear hw6 hf6 hbv hR5 hB5 hnb5 ho5 hn5 hc6 hcc HP HR HM hm'
              go_upto_region 26 with (fail)
              rw [← HW6.out, ← HBV.out]
              clear HW6 HBV
              go_wp2_with fail
              go_loopg [19] N (fun g x19 wr => ∃ (m : Nat) (p : Ps) (G : Nat → Prop), m + g = N ∧ x19 = .int .i64 m ∧ SfA p ⟨k, N, o, t, l⟩ m X2 V ∧ SfV W wr r bq vb pb bb bv ⟨k, N, o, t, l⟩ (.slice A l.length c) i (accVt vt V m X2) (.slice fa first.length fc) first V (.slice va V.v.length vc) p c6 G)
              case atStart => exact ⟨0, p5, G5, by omega, rfl, HA0.out, by rw [show accVt vt V 0 X2 = vt by funext j; unfold accVt; simp]; exact hM6⟩
              case round =>
                clear hM6 HA0 p5 G5 p G all
                obtain ⟨m, p, G, hm, rfl, hp, hM⟩ := hrel
                have HM := Lib.hid hm
                have HP := Lib.hid hp
                have hm' : m ≤ N := by omega
                clear hm hp
                have b1 := hM.r.q.cell 1 rfl
                simp only at b1
                by_cases hmN : m < N
                · have hm12 : m < 12 := by omega
                  have hmi : (m : Int) < 12 := by omega
                  have hmi0 : (0 : Int) ≤ (m : Int) := by omega
                  have z1 := (HKS.out wr hM.r.l.fr).2
                  have hii1 : (i : Int) < (l1.length : Int) := by omega
                  have d0 := hM.b.cell 0 rfl
                  have d1 := hM.b.cell 1 rfl
                  obtain ⟨y0, y1, e0, e1, hle⟩ := hM.r.m.at hm12
                  have HLe := Lib.hid hle
                  have hf := (Fr.refl (fun _ => False) wr).drew
                  clear hle
                  cases hb : X2.testBit m with
                  | false =>
                    have HB := Lib.hid hb
                    have hno : ∀ w, Calls Try.prog 13 #[.int .u32 (X2 : Int), .int .i64 (m : Int)] w fun e w' => e = .returned (.bool false) ∧ w = w' := fun w => by rw [← HB.out]; exact has_any X2 m hset2 hm12 w
                    have HNo := Lib.hid hno
                    clear hb hno hf
                    go_upto_region 31 with (fail)
                    go_quiet ((go_at_call 13; exact quiet_left (HNo.out _)))
                    have hf := (Fr.refl (fun _ => False) wr).drewN nq
                    have hM4 := hM.up hf
                    clear hM hf z1 d0 d1 e0 e1 b1
                    go_wp2_with fail
                    go_roundg (N - (m + 1))
                    case measure => have := HM.out; omega
                    case rel => exact ⟨m + 1, p, G, by have := HM.out; omega, by go_num, HP.out.skip HB.out, by rw [accVt_skip HB.out]; exact hM4⟩
                  | true =>
                    have HB := Lib.hid hb
                    clear hb
                    go_upto_region 31 with (fail)
                    first
                      | go_region_held3 (fun wx => wx.cell? ⟨bs, offs + i * 2 + 1, none⟩ = some (.int .u32 X2) ∧ wx.cell? ⟨bb, 0, none⟩ = some (.int .u64 (ballN i : Nat)) ∧ wx.cell? ⟨bb, 1, none⟩ = some (.int .i64 (ballD i)) ∧ wx.cell? ⟨pb, m * 2, none⟩ = some (.int .u64 y0) ∧ wx.cell? ⟨pb, m * 2 + 1, none⟩ = some (.int .i64 y1)) (first | exact ⟨z1, d0, d1, e0, e1⟩ | exact hS4)
                        ((first
                          | (go_at_call 13
                             refine (has_any X2 m hset2 hm12 _).mono ?_
                             rintro e w4 ⟨rfl, rfl⟩
                             rw [HB.out]
                             have hS4 := And.intro (hf.cell z1 (fun h => h)) (And.intro (hf.cell d0 (fun h => h)) (And.intro (hf.cell d1 (fun h => h)) (And.intro (hf.cell e0 (fun h => h)) (hf.cell e1 (fun h => h))))))
                          | (go_at_call 17
                             refine (rless_any _ _ y0 y1 _).mono ?_
                             rintro e w4 ⟨rfl, hf4⟩
                             rw [HLe.out]
                             replace hf := hf.tr hf4
                             have hS4 := And.intro (hf.cell z1 (fun h => h)) (And.intro (hf.cell d0 (fun h => h)) (And.intro (hf.cell d1 (fun h => h)) (And.intro (hf.cell e0 (fun h => h)) (hf.cell e1 (fun h => h))))))))
                      | fail
                    all_goals
                      have hM4 := hM.up hf
                      clear hM hf hS4 z1 d0 d1 e0 e1 b1
                      obtain ⟨w3, hw3⟩ : ∃ w3, w3 = w4 := ⟨_, rfl⟩
                      rw [← hw3] at hM4 ⊢
                      clear hw3
                      have d0 := hM4.b.cell 0 rfl
                      have d1 := hM4.b.cell 1 rfl
                      obtain ⟨y0, y1, e0, e1, -⟩ := hM4.r.m.at hm12
                      have f0 := hM4.r.m.frozen (m * 2)
                      have f1 := hM4.r.m.frozen (m * 2 + 1)
                      obtain ⟨w5, hw5⟩ : ∃ w5, w5 = (w3.setCell ⟨pb, m * 2, none⟩ (.int .u64 (ballN i : Nat))).setCell ⟨pb, m * 2 + 1, none⟩ (.int .i64 (ballD i)) := ⟨_, rfl⟩
                      have hM5 : SfV W w5 r bq vb pb bb bv ⟨k, N, o, t, l⟩ (.slice A l.length c) i (accVt vt V m X2) (.slice fa first.length fc) first V (.slice va V.v.length vc) p c6 G := by rw [hw5]; exact hM4.putP hm12
                      have HW5 := Lib.hid hw5
                      clear hw5
                      go_upto_region 33 with (fail)
                      rw [← HW5.out]
                      clear HW5 d0 d1 e0 e1 f0 f1 hM4
                      have d0 := hM5.v.cell 0 rfl
                      have d1 := hM5.v.cell 1 rfl
                      have d2 := hM5.v.cell 2 rfl
                      have d3 := hM5.v.cell 3 rfl
                      obtain ⟨w6, hw6⟩ : ∃ w6, w6 = w5.alloc (.cells #[.int .u64 V.s, .int .u64 V.n, .int .i64 V.d, .slice va V.v.length vc] 45) := ⟨_, rfl⟩
                      have hf6 : Fr (fun _ => False) w5 w6 := by rw [hw6]; exact (Fr.refl _ w5).alloc _
                      obtain ⟨bl, hbl⟩ : ∃ b, b = w5.heap.size := ⟨_, rfl⟩
                      have hL6 : Blk w6 bl 45 #[.int .u64 V.s, .int .u64 V.n, .int .i64 V.d, .slice va V.v.length vc] := by rw [hw6, hbl]; exact Blk.new _ _ _
                      have hM6 := hM5.up hf6
                      obtain ⟨cv6, hcv6⟩ := hM6.r.v.blk
                      obtain ⟨cp6, hcp6⟩ := hM6.r.m.blk
                      have hVL : VtL w6 (.slice (some ⟨bl, 0, none⟩) 1 1) [V] (fun k => k = vb ∨ k = pb ∨ G k) :=
                        HVok.out.one hL6 (Byt.of_own hM6.o) (fun h => by
                          rcases h with h | h | h
                          · exact hL6.ne_ hcv6 (by decide) h
                          · exact hL6.ne_ hcp6 (by decide) h
                          · rw [hbl] at h; exact hM5.r.l.not_new (Nat.le_refl _) h) (fun g hg _ h => by
                          rcases h with h | h | h
                          · exact own_blk_ne hM6.o hcv6 (by decide) g hg h
                          · exact own_blk_ne hM6.o hcp6 (by decide) g hg h
                          · exact hM6.no g hg h) 1
                      obtain ⟨sv0, v0, -⟩ := hM6.r.v.at hm12
                      have f0 := hM6.r.v.frozen m
                      obtain ⟨w7, hw7⟩ : ∃ w7, w7 = w6.setCell ⟨vb, m, none⟩ (.slice (some ⟨bl, 0, none⟩) 1 1) := ⟨_, rfl⟩
                      have hM7 : SfV W w7 r bq vb pb bb bv ⟨k, N, o, t, l⟩ (.slice A l.length c) i (accVt vt V (m + 1) X2) (.slice fa first.length fc) first V (.slice va V.v.length vc) p c6 G := by rw [hw7, accVt_put HB.out]; exact hM6.putV hm12 hVL
                      have HW6 := Lib.hid hw6
                      have HBL := Lib.hid hbl
                      have HW7 := Lib.hid hw7
                      rw [hw6] at v0 f0
                      clear hw6 hbl hw7 hf6 hL6 hM5 hM6 hVL hcv6 hcp6
                      go_upto_region 34 with (fail)
                      rw [← HW6.out, ← HBL.out, ← HW7.out]
                      clear HW6 HBL HW7 v0 f0 d0 d1 d2 d3
                      have hae := HP.out.accE (by show m < (N : Int).toNat; omega)
                      have HAE := Lib.hid hae
                      have HP8 := Lib.hid (HP.out.acc (by show m < (N : Int).toNat; omega) HB.out)
                      clear hae
                      go_wp2_with fail
                      refine (acc_lw hM7.r.l m 1 (by omega)).mono ?_
                      rintro e w8 ⟨rfl, hL8, hf8⟩
                      rw [HAE.out]
                      have hM8 := hM7.next hL8 (Nx.refl _ _ _) hf8
                      generalize accP p (m : Int) 1 = p8 at hM8 HP8
                      clear hM7 hL8 hf8 HAE
                      go_wp2_with fail
                      go_roundg (N - (m + 1))
                      case measure => have := HM.out; omega
                      case rel => exact ⟨m + 1, p8, G, by have := HM.out; omega, by go_num, HP8.out, hM8⟩
                · obtain rfl : N = m := by omega
                  have hch := (show SfA p ⟨k, N, o, t, l⟩ ((N : Int).toNat) X2 V from HP.out).ch
                  have HCh := Lib.hid hch
                  clear hch
                  go_wp2_with fail
                  refine (chosen_any r p _ _ 1 (by omega) wr hM.r.l.pr).mono ?_
                  rintro e w7 ⟨va7, vc7, rfl, ho7, hf7⟩
                  rw [HCh.out] at ho7 ⊢
                  have hM7 := hM.up hf7
                  have ho7 := own_base ho7
                  clear hM hf7 b1 HCh
                  cases hq : isQ ⟨k, N, o, t, l⟩ true X2.testBit with
                  | false =>
                    clear ho7 hq
                    simp only [Bool.false_eq_true, if_false, Option.getD_none, Option.isSome_none, List.length_nil]
                    have hO7 := hM7.r.end_
                    go_wp2_with fail
                    go_roundg (l1.length - (i + 1))
                    case measure => have := HI.out; omega
                    case rel => exact ⟨i + 1, won, fa, fc, first, accVt vt V N X2, by have := HI.out; omega, by go_num, rfl, rfl, by omega, SafeI.vti HVI.out HSame5.out.2, HSI.out.acc ⟨HSame5.out.2.2.1, HSame5.out.2.2.2.1⟩ HSame5.out.1, hO7⟩
                  | true =>
                    have HQ := Lib.hid hq
                    rw [hq] at ho7
                    clear hq
                    simp only [if_true, Option.getD_some, Option.isSome_some] at ho7 ⊢
                    have hO7 := hM7.r.end_
                    have hO8 : SfO W w7 bq vb pb ⟨k, N, o, t, l⟩ (.slice A l.length c) (i + 1) (accVt vt V N X2) (.slice va7 V.v.length vc7) V.v := ⟨hO7.fr, hO7.q, hO7.v, hO7.m, ho7, hO7.lv, hO7.lp⟩
                    have HWon := Lib.hid (SafeI.won (q := ⟨k, N, o, t, l⟩) HVI.out ⟨HSame5.out.2.2.1, HSame5.out.2.2.2.1⟩ HQ.out)
                    cases won with
                    | false =>
                      go_wp2_with fail
                      go_roundg (l1.length - (i + 1))
                      case measure => have := HI.out; omega
                      case rel => exact ⟨i + 1, true, va7, vc7, V.v, accVt vt V N X2, by have := HI.out; omega, by go_num, rfl, rfl, by omega, SafeI.vti HVI.out HSame5.out.2, HWon.out, hO8⟩
                    | true =>
                      have hbf := Byt.of_own hM7.r.f
                      have hbv7 := Byt.of_own ho7
                      go_wp2_with fail
                      refine (same_any _ _ V.v first w7 hbv7 hbf).mono ?_
                      rintro e w8 ⟨rfl, rfl⟩
                      rw [HSame5.out.1 (by simp), decide_eq_true rfl]
                      rw [HSame5.out.1 (by simp)] at hO8 HWon
                      go_wp2_with fail
                      go_roundg (l1.length - (i + 1))
                      case measure => have := HI.out; omega
                      case rel => exact ⟨i + 1, true, va7, vc7, first, accVt vt V N X2, by have := HI.out; omega, by go_num, rfl, rfl, by omega, SafeI.vti HVI.out HSame5.out.2, HWon.out, hO8⟩
            · have hby3 := byt_nil w3
              have ho100 : ([] : List UInt8).length ≤ 100 := by simp
              go_upto_region 25 with (fail)
              clear hrow
              go_wp2_with fail
              obtain ⟨e1, V, e2, x1, x2, x3, x4, x5, e5⟩ := HPro.out [] ho100
              have hsame : won = true → V.v = first := fun hw => x4.trans (HSame.out [] hw)
              have hQ5 := HP.out.q
              have hSl := HP.out.sl
              refine (pro_lw hR3.l 1 (by omega) _ [] (by unfold maxLen; omega) hby3).mono ?_
              rintro e w5 ⟨va, vc, G5, rfl, ho5, hL5, hX5, hn5, hf5⟩
              rw [e1, e2]
              rw [e2] at ho5 hn5
              rw [e5] at hL5
              have hR5 := hR3.next hL5 hX5 hf5
              have hB5 := hB3.fr hf5 hnb
              have hnb5 := hX5.not hnb hB3.lt
              have HSame5 := Lib.hid (And.intro hsame (And.intro x1 (And.intro x2 (And.intro x3 x5))))
              have hVok : VtOk V := ⟨by rw [x1]; omega, by rw [x2]; exact hbn64, by rw [x3]; unfold ballD; omega, by rw [x3]; unfold ballD; omega, by omega⟩
              have HVok := Lib.hid hVok
              have hA0 : SfA ({ p with sl := upd p.sl 1 (V, 0) } : Ps) ⟨k, N, o, t, l⟩ 0 X2 V := ⟨hQ5, 0, by simp [upd], fun j => by simp⟩
              have HA0 := Lib.hid hA0
              generalize ({ p with sl := upd p.sl 1 (V, 0) } : Ps) = p5 at hR5 HA0
              simp only [vtV]
              clear e1 e2 e5 x1 x2 x3 x4 x5 hQ5 hSl hsame hL5 hX5 hf5 hR3 hB3 hnb hVok hA0 hby3 HPro HSame
              obtain ⟨w6, hw6⟩ : ∃ w6, w6 = w5.alloc (.cells #[.int .u64 V.s, .int .u64 V.n, .int .i64 V.d, .slice va V.v.length vc] 45) := ⟨_, rfl⟩
              have hf6 : Fr (fun _ => False) w5 w6 := by rw [hw6]; exact (Fr.refl _ w5).alloc _
              obtain ⟨bv, hbv⟩ : ∃ b, b = w5.heap.size := ⟨_, rfl⟩
              have hM6 : SfV W w6 r bq vb pb bb bv ⟨k, N, o, t, l⟩ (.slice A l.length c) i vt (.slice fa first.length fc) first V (.slice va V.v.length vc) p5 (cc + 1) G5 :=
                ⟨hR5.up hf6, hB5.fr hf6 (fun h => h), hnb5, by rw [hw6, hbv]; exact Blk.new _ _ _, by rw [hbv]; exact hR5.l.not_new (Nat.le_refl _), own_fr (own_base ho5) hf6 (fun _ _ h => h), hn5⟩
              have HW6 := Lib.hid hw6
              have HBV := Lib.hid hbv
              obtain ⟨c6, hc6⟩ : ∃ c6, c6 = cc + 1 := ⟨_, rfl⟩
              rw [← hc6] at hM6
              have hc6' : c6 ≤ 13 := by omega
              clear hw6 hf6 hbv hR5 hB5 hnb5 ho5 hn5 hc6 hcc HP HR HM hm'
              go_upto_region 26 with (fail)
              rw [← HW6.out, ← HBV.out]
              clear HW6 HBV
              go_wp2_with fail
              go_loopg [19] N (fun g x19 wr => ∃ (m : Nat) (p : Ps) (G : Nat → Prop), m + g = N ∧ x19 = .int .i64 m ∧ SfA p ⟨k, N, o, t, l⟩ m X2 V ∧ SfV W wr r bq vb pb bb bv ⟨k, N, o, t, l⟩ (.slice A l.length c) i (accVt vt V m X2) (.slice fa first.length fc) first V (.slice va V.v.length vc) p c6 G)
              case atStart => exact ⟨0, p5, G5, by omega, rfl, HA0.out, by rw [show accVt vt V 0 X2 = vt by funext j; unfold accVt; simp]; exact hM6⟩
              case round =>
                clear hM6 HA0 p5 G5 p G all
                obtain ⟨m, p, G, hm, rfl, hp, hM⟩ := hrel
                have HM := Lib.hid hm
                have HP := Lib.hid hp
                have hm' : m ≤ N := by omega
                clear hm hp
                have b1 := hM.r.q.cell 1 rfl
                simp only at b1
                by_cases hmN : m < N
                · have hm12 : m < 12 := by omega
                  have hmi : (m : Int) < 12 := by omega
                  have hmi0 : (0 : Int) ≤ (m : Int) := by omega
                  have z1 := (HKS.out wr hM.r.l.fr).2
                  have hii1 : (i : Int) < (l1.length : Int) := by omega
                  have d0 := hM.b.cell 0 rfl
                  have d1 := hM.b.cell 1 rfl
                  obtain ⟨y0, y1, e0, e1, hle⟩ := hM.r.m.at hm12
                  have HLe := Lib.hid hle
                  have hf := (Fr.refl (fun _ => False) wr).drew
                  clear hle
                  cases hb : X2.testBit m with
                  | false =>
                    have HB := Lib.hid hb
                    have hno : ∀ w, Calls Try.prog 13 #[.int .u32 (X2 : Int), .int .i64 (m : Int)] w fun e w' => e = .returned (.bool false) ∧ w = w' := fun w => by rw [← HB.out]; exact has_any X2 m hset2 hm12 w
                    have HNo := Lib.hid hno
                    clear hb hno hf
                    go_upto_region 31 with (fail)
                    go_quiet ((go_at_call 13; exact quiet_left (HNo.out _)))
                    have hf := (Fr.refl (fun _ => False) wr).drewN nq
                    have hM4 := hM.up hf
                    clear hM hf z1 d0 d1 e0 e1 b1
                    go_wp2_with fail
                    go_roundg (N - (m + 1))
                    case measure => have := HM.out; omega
                    case rel => exact ⟨m + 1, p, G, by have := HM.out; omega, by go_num, HP.out.skip HB.out, by rw [accVt_skip HB.out]; exact hM4⟩
                  | true =>
                    have HB := Lib.hid hb
                    clear hb
                    go_upto_region 31 with (fail)
                    first
                      | go_region_held3 (fun wx => wx.cell? ⟨bs, offs + i * 2 + 1, none⟩ = some (.int .u32 X2) ∧ wx.cell? ⟨bb, 0, none⟩ = some (.int .u64 (ballN i : Nat)) ∧ wx.cell? ⟨bb, 1, none⟩ = some (.int .i64 (ballD i)) ∧ wx.cell? ⟨pb, m * 2, none⟩ = some (.int .u64 y0) ∧ wx.cell? ⟨pb, m * 2 + 1, none⟩ = some (.int .i64 y1)) (first | exact ⟨z1, d0, d1, e0, e1⟩ | exact hS4)
                        ((first
                          | (go_at_call 13
                             refine (has_any X2 m hset2 hm12 _).mono ?_
                             rintro e w4 ⟨rfl, rfl⟩
                             rw [HB.out]
                             have hS4 := And.intro (hf.cell z1 (fun h => h)) (And.intro (hf.cell d0 (fun h => h)) (And.intro (hf.cell d1 (fun h => h)) (And.intro (hf.cell e0 (fun h => h)) (hf.cell e1 (fun h => h))))))
                          | (go_at_call 17
                             refine (rless_any _ _ y0 y1 _).mono ?_
                             rintro e w4 ⟨rfl, hf4⟩
                             rw [HLe.out]
                             replace hf := hf.tr hf4
                             have hS4 := And.intro (hf.cell z1 (fun h => h)) (And.intro (hf.cell d0 (fun h => h)) (And.intro (hf.cell d1 (fun h => h)) (And.intro (hf.cell e0 (fun h => h)) (hf.cell e1 (fun h => h))))))))
                      | fail
                    all_goals
                      have hM4 := hM.up hf
                      clear hM hf hS4 z1 d0 d1 e0 e1 b1
                      obtain ⟨w3, hw3⟩ : ∃ w3, w3 = w4 := ⟨_, rfl⟩
                      rw [← hw3] at hM4 ⊢
                      clear hw3
                      have d0 := hM4.b.cell 0 rfl
                      have d1 := hM4.b.cell 1 rfl
                      obtain ⟨y0, y1, e0, e1, -⟩ := hM4.r.m.at hm12
                      have f0 := hM4.r.m.frozen (m * 2)
                      have f1 := hM4.r.m.frozen (m * 2 + 1)
                      obtain ⟨w5, hw5⟩ : ∃ w5, w5 = (w3.setCell ⟨pb, m * 2, none⟩ (.int .u64 (ballN i : Nat))).setCell ⟨pb, m * 2 + 1, none⟩ (.int .i64 (ballD i)) := ⟨_, rfl⟩
                      have hM5 : SfV W w5 r bq vb pb bb bv ⟨k, N, o, t, l⟩ (.slice A l.length c) i (accVt vt V m X2) (.slice fa first.length fc) first V (.slice va V.v.length vc) p c6 G := by rw [hw5]; exact hM4.putP hm12
                      have HW5 := Lib.hid hw5
                      clear hw5
                      go_upto_region 33 with (fail)
                      rw [← HW5.out]
                      clear HW5 d0 d1 e0 e1 f0 f1 hM4
                      have d0 := hM5.v.cell 0 rfl
                      have d1 := hM5.v.cell 1 rfl
                      have d2 := hM5.v.cell 2 rfl
                      have d3 := hM5.v.cell 3 rfl
                      obtain ⟨w6, hw6⟩ : ∃ w6, w6 = w5.alloc (.cells #[.int .u64 V.s, .int .u64 V.n, .int .i64 V.d, .slice va V.v.length vc] 45) := ⟨_, rfl⟩
                      have hf6 : Fr (fun _ => False) w5 w6 := by rw [hw6]; exact (Fr.refl _ w5).alloc _
                      obtain ⟨bl, hbl⟩ : ∃ b, b = w5.heap.size := ⟨_, rfl⟩
                      have hL6 : Blk w6 bl 45 #[.int .u64 V.s, .int .u64 V.n, .int .i64 V.d, .slice va V.v.length vc] := by rw [hw6, hbl]; exact Blk.new _ _ _
                      have hM6 := hM5.up hf6
                      obtain ⟨cv6, hcv6⟩ := hM6.r.v.blk
                      obtain ⟨cp6, hcp6⟩ := hM6.r.m.blk
                      have hVL : VtL w6 (.slice (some ⟨bl, 0, none⟩) 1 1) [V] (fun k => k = vb ∨ k = pb ∨ G k) :=
                        HVok.out.one hL6 (Byt.of_own hM6.o) (fun h => by
                          rcases h with h | h | h
                          · exact hL6.ne_ hcv6 (by decide) h
                          · exact hL6.ne_ hcp6 (by decide) h
                          · rw [hbl] at h; exact hM5.r.l.not_new (Nat.le_refl _) h) (fun g hg _ h => by
                          rcases h with h | h | h
                          · exact own_blk_ne hM6.o hcv6 (by decide) g hg h
                          · exact own_blk_ne hM6.o hcp6 (by decide) g hg h
                          · exact hM6.no g hg h) 1
                      obtain ⟨sv0, v0, -⟩ := hM6.r.v.at hm12
                      have f0 := hM6.r.v.frozen m
                      obtain ⟨w7, hw7⟩ : ∃ w7, w7 = w6.setCell ⟨vb, m, none⟩ (.slice (some ⟨bl, 0, none⟩) 1 1) := ⟨_, rfl⟩
                      have hM7 : SfV W w7 r bq vb pb bb bv ⟨k, N, o, t, l⟩ (.slice A l.length c) i (accVt vt V (m + 1) X2) (.slice fa first.length fc) first V (.slice va V.v.length vc) p c6 G := by rw [hw7, accVt_put HB.out]; exact hM6.putV hm12 hVL
                      have HW6 := Lib.hid hw6
                      have HBL := Lib.hid hbl
                      have HW7 := Lib.hid hw7
                      rw [hw6] at v0 f0
                      clear hw6 hbl hw7 hf6 hL6 hM5 hM6 hVL hcv6 hcp6
                      go_upto_region 34 with (fail)
                      rw [← HW6.out, ← HBL.out, ← HW7.out]
                      clear HW6 HBL HW7 v0 f0 d0 d1 d2 d3
                      have hae := HP.out.accE (by show m < (N : Int).toNat; omega)
                      have HAE := Lib.hid hae
                      have HP8 := Lib.hid (HP.out.acc (by show m < (N : Int).toNat; omega) HB.out)
                      clear hae
                      go_wp2_with fail
                      refine (acc_lw hM7.r.l m 1 (by omega)).mono ?_
                      rintro e w8 ⟨rfl, hL8, hf8⟩
                      rw [HAE.out]
                      have hM8 := hM7.next hL8 (Nx.refl _ _ _) hf8
                      generalize accP p (m : Int) 1 = p8 at hM8 HP8
                      clear hM7 hL8 hf8 HAE
                      go_wp2_with fail
                      go_roundg (N - (m + 1))
                      case measure => have := HM.out; omega
                      case rel => exact ⟨m + 1, p8, G, by have := HM.out; omega, by go_num, HP8.out, hM8⟩
                · obtain rfl : N = m := by omega
                  have hch := (show SfA p ⟨k, N, o, t, l⟩ ((N : Int).toNat) X2 V from HP.out).ch
                  have HCh := Lib.hid hch
                  clear hch
                  go_wp2_with fail
                  refine (chosen_any r p _ _ 1 (by omega) wr hM.r.l.pr).mono ?_
                  rintro e w7 ⟨va7, vc7, rfl, ho7, hf7⟩
                  rw [HCh.out] at ho7 ⊢
                  have hM7 := hM.up hf7
                  have ho7 := own_base ho7
                  clear hM hf7 b1 HCh
                  cases hq : isQ ⟨k, N, o, t, l⟩ true X2.testBit with
                  | false =>
                    clear ho7 hq
                    simp only [Bool.false_eq_true, if_false, Option.getD_none, Option.isSome_none, List.length_nil]
                    have hO7 := hM7.r.end_
                    go_wp2_with fail
                    go_roundg (l1.length - (i + 1))
                    case measure => have := HI.out; omega
                    case rel => exact ⟨i + 1, won, fa, fc, first, accVt vt V N X2, by have := HI.out; omega, by go_num, rfl, rfl, by omega, SafeI.vti HVI.out HSame5.out.2, HSI.out.acc ⟨HSame5.out.2.2.1, HSame5.out.2.2.2.1⟩ HSame5.out.1, hO7⟩
                  | true =>
                    have HQ := Lib.hid hq
                    rw [hq] at ho7
                    clear hq
                    simp only [if_true, Option.getD_some, Option.isSome_some] at ho7 ⊢
                    have hO7 := hM7.r.end_
                    have hO8 : SfO W w7 bq vb pb ⟨k, N, o, t, l⟩ (.slice A l.length c) (i + 1) (accVt vt V N X2) (.slice va7 V.v.length vc7) V.v := ⟨hO7.fr, hO7.q, hO7.v, hO7.m, ho7, hO7.lv, hO7.lp⟩
                    have HWon := Lib.hid (SafeI.won (q := ⟨k, N, o, t, l⟩) HVI.out ⟨HSame5.out.2.2.1, HSame5.out.2.2.2.1⟩ HQ.out)
                    cases won with
                    | false =>
                      go_wp2_with fail
                      go_roundg (l1.length - (i + 1))
                      case measure => have := HI.out; omega
                      case rel => exact ⟨i + 1, true, va7, vc7, V.v, accVt vt V N X2, by have := HI.out; omega, by go_num, rfl, rfl, by omega, SafeI.vti HVI.out HSame5.out.2, HWon.out, hO8⟩
                    | true =>
                      have hbf := Byt.of_own hM7.r.f
                      have hbv7 := Byt.of_own ho7
                      go_wp2_with fail
                      refine (same_any _ _ V.v first w7 hbv7 hbf).mono ?_
                      rintro e w8 ⟨rfl, rfl⟩
                      rw [HSame5.out.1 (by simp), decide_eq_true rfl]
                      rw [HSame5.out.1 (by simp)] at hO8 HWon
                      go_wp2_with fail
                      go_roundg (l1.length - (i + 1))
                      case measure => have := HI.out; omega
                      case rel => exact ⟨i + 1, true, va7, vc7, first, accVt vt V N X2, by have := HI.out; omega, by go_num, rfl, rfl, by omega, SafeI.vti HVI.out HSame5.out.2, HWon.out, hO8⟩
    · have hcs : (i < l1.length ∧ ¬ (i : Int) < 30) ∨ ¬ (i < l1.length) := by omega
      rcases hcs with ⟨ha, hb⟩ | ha
      all_goals
        go_wp2_with fail
        refine (known_any wr).mono ?_
        rintro e w8 ⟨rfl, hf8⟩
        go_wp2_with fail
        go_ret
        exact ⟨rfl, hO.below hf8⟩
end Go.Proofs.Ytliljjlegofmkaa
