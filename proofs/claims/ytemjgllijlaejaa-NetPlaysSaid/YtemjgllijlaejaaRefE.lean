/- The document's net: node, Send. -/
import Derived.Test.YtemjgllijlaejaaRefD
namespace Go.Proofs.Ytemjgllijlaejaa
open Go.RowKit

theorem rnode_any (mb : Nat) (N a : Int) (w : World) (h : w.cell? ⟨mb, 0, none⟩ = some (.int .i64 N)) :
    Calls Try.prog 43 #[.pointer (some ⟨mb, 0, none⟩), .int .i64 a] w fun e w' => e = .returned (.bool (inN N a)) ∧ w = w' := by
  by_cases h0 : 0 ≤ a
  · go_enter Try.func43, Try.ntmps43
    go_wp2_with fail
    go_ret
    refine ⟨?_, rfl⟩
    show Ending.returned (.bool (decide (a < N))) = _
    simp [inN, h0]
  · go_enter Try.func43, Try.ntmps43
    go_wp2_with fail
    go_ret
    refine ⟨?_, rfl⟩
    show Ending.returned (.bool false) = _
    rw [inN_no (by omega)]

set_option maxRecDepth 100000 in
set_option maxHeartbeats 4000000 in
theorem rsend_not (mb : Nat) (N : Int) (L : List Pk) (P : List (Int × Int)) (F : Nat → Prop) (p : Pk) (s : Value) (w : World) (h : RefR w mb N L P F) (hs : Byt w s p.b) (hn : ¬ sendE N L p = 0) :
    Calls Try.prog 32 #[.pointer (some ⟨mb, 0, none⟩), .agg #[.int .i64 p.f, .int .i64 p.t, s]] w fun e w' => e = .returned (.int .i64 (sendE N L p)) ∧ Fr (fun _ => False) w w' := by
  obtain ⟨a, c, c1, hmb, c0⟩ := h.row
  obtain ⟨f, t, bs⟩ := p
  simp only at hs ⊢
  obtain ⟨sa, sc, rfl, -, -⟩ := hs
  have HF : Hid (∀ n, Fr (fun _ => False) w ((w.alloc (.cells #[.int .i64 f, .int .i64 t, .slice sa bs.length sc] 29)).drewN n)) := Lib.hid fun n => ((Fr.refl _ w).alloc _).drewN n
  clear h
  by_cases h1 : f < 0
  · have e0 : sendE N L ⟨f, t, bs⟩ = 2 := by unfold sendE; rw [show inN N f = false from inN_no (by omega)]; rfl
    rw [e0]
    clear e0 hn
    go_enter Try.func32, Try.ntmps32
    go_upto_region 1 with (fail)
    go_quiet (fail)
    go_wp2_with fail
    go_ret
    exact ⟨rfl, HF.out nq⟩
  by_cases h2 : N ≤ f
  · have e0 : sendE N L ⟨f, t, bs⟩ = 2 := by unfold sendE; rw [show inN N f = false from inN_no (by omega)]; rfl
    rw [e0]
    clear e0 hn
    go_enter Try.func32, Try.ntmps32
    go_upto_region 1 with (fail)
    go_quiet (fail)
    go_wp2_with fail
    go_ret
    exact ⟨rfl, HF.out nq⟩
  have i1 : inN N f = true := inN_yes (by omega) (by omega)
  by_cases h3 : t < 0
  · have e0 : sendE N L ⟨f, t, bs⟩ = 2 := by unfold sendE; rw [i1, show inN N t = false from inN_no (by omega)]; rfl
    clear i1
    rw [e0]
    clear e0 hn
    go_enter Try.func32, Try.ntmps32
    go_upto_region 1 with (fail)
    go_quiet (fail)
    go_wp2_with fail
    go_ret
    exact ⟨rfl, HF.out nq⟩
  by_cases h4 : N ≤ t
  · have e0 : sendE N L ⟨f, t, bs⟩ = 2 := by unfold sendE; rw [i1, show inN N t = false from inN_no (by omega)]; rfl
    clear i1
    rw [e0]
    clear e0 hn
    go_enter Try.func32, Try.ntmps32
    go_upto_region 1 with (fail)
    go_quiet (fail)
    go_wp2_with fail
    go_ret
    exact ⟨rfl, HF.out nq⟩
  have i2 : inN N t = true := inN_yes (by omega) (by omega)
  by_cases h5 : 1200 < bs.length
  · have e0 : sendE N L ⟨f, t, bs⟩ = 3 := by unfold sendE; rw [i1, i2, if_pos h5]; rfl
    have h5' : (1200 : Int) < (bs.length : Int) := by omega
    clear i1 i2
    rw [e0]
    clear e0 hn
    go_enter Try.func32, Try.ntmps32
    go_upto_region 1 with (fail)
    go_quiet (fail)
    go_wp2_with fail
    go_ret
    exact ⟨rfl, HF.out nq⟩
  by_cases h6 : 256 ≤ L.length
  · have e0 : sendE N L ⟨f, t, bs⟩ = 5 := by unfold sendE; rw [i1, i2, if_neg h5, if_pos h6]; rfl
    have h5' : ¬ (1200 : Int) < (bs.length : Int) := by omega
    have h6' : (256 : Int) ≤ (L.length : Int) := by omega
    clear i1 i2
    rw [e0]
    clear e0 hn
    go_enter Try.func32, Try.ntmps32
    go_upto_region 1 with (fail)
    go_quiet (fail)
    go_wp2_with fail
    go_ret
    exact ⟨rfl, HF.out nq⟩
  · exact absurd (by unfold sendE; rw [i1, i2, if_neg h5, if_neg h6]; rfl) hn

set_option maxRecDepth 100000 in
set_option maxHeartbeats 4000000 in
theorem rsend_ok (mb : Nat) (N : Int) (L : List Pk) (P : List (Int × Int)) (F : Nat → Prop) (p : Pk) (s : Value) (w : World) (h : RefR w mb N L P F) (hs : Byt w s p.b) (hn : sendE N L p = 0) (hP : P.length ≤ 1000) :
    Calls Try.prog 32 #[.pointer (some ⟨mb, 0, none⟩), .agg #[.int .i64 p.f, .int .i64 p.t, s]] w fun e w' => e = .returned (.int .i64 0) ∧
      RefR w' mb N (if P.any (mt p.f p.t) = true then L else L ++ [p]) P (fun k => F k ∨ w.heap.size ≤ k) ∧ Fr F w w' := by
  obtain ⟨i0, hi0, hz0, hz1, hz2⟩ := info_parts pkinfo
  obtain ⟨a, c, c1, hmb, c0⟩ := h.row
  obtain ⟨f, t, bs⟩ := p
  simp only at hs ⊢
  have hs0 := hs
  obtain ⟨sa, sc, rfl, -, -⟩ := hs0
  have hin : 0 ≤ f ∧ f < N ∧ 0 ≤ t ∧ t < N ∧ bs.length ≤ 1200 ∧ L.length < 256 := by
    unfold sendE at hn
    split at hn
    · rename_i hx
      simp only [Bool.and_eq_true, inN, decide_eq_true_eq] at hx
      split at hn
      · omega
      · split at hn
        · omega
        · simp only at *; omega
    · omega
  obtain ⟨h1, h2, h3, h4, h5, h6⟩ := hin
  have h1' : ¬ f < 0 := by omega
  have h2' : ¬ N ≤ f := by omega
  have h3' : ¬ t < 0 := by omega
  have h4' : ¬ N ≤ t := by omega
  have h5' : ¬ (1200 : Int) < (bs.length : Int) := by omega
  have h6' : ¬ (256 : Int) ≤ (L.length : Int) := by omega
  have HH := Lib.hid h
  generalize hM : (if P.any (mt f t) = true then L else L ++ [⟨f, t, bs⟩]) = M
  have HM := Lib.hid hM
  clear hn h hM
  go_enter Try.func32, Try.ntmps32
  go_upto_region 1 with (fail)
  go_quiet (fail)
  go_wp2_with fail
  obtain ⟨w2, hw2⟩ : ∃ w2, w2 = (w.alloc (.cells #[.int .i64 f, .int .i64 t, .slice sa bs.length sc] 29)).drewN nq := ⟨_, rfl⟩
  rw [← hw2]
  have hf2 : Fr (fun _ => False) w w2 := by rw [hw2]; exact ((Fr.refl _ w).alloc _).drewN _
  have hb2 : Blk w2 w.heap.size 29 #[.int .i64 f, .int .i64 t, .slice sa bs.length sc] := by rw [hw2]; exact (Blk.new _ _ _).drewN _
  clear hw2 c0 c1
  refine (rparted_any mb N L P F f t w2 (HH.out.fr hf2 (fun _ _ h => h)) hP).mono ?_
  rintro e w3 ⟨rfl, hf3⟩
  have hfb := hb2.fr hf3 (fun h => h)
  have hf4 := hf2.tr hf3
  have hs3 := hs.fr hf4 (fun _ _ h => h)
  have hH3 := HH.out.fr hf4 (fun _ _ h => h)
  clear hf2 hf3 hb2
  cases hany : P.any (mt f t) with
  | true =>
    have HN := Lib.hid hany
    have HX := Lib.hid (And.intro hH3 hf4)
    clear hH3 hf4 hfb hs3 hany
    go_wp2_with fail
    go_ret
    have hM := HM.out
    rw [if_pos HN.out] at hM
    subst hM
    exact ⟨rfl, HX.out.1.up (fun _ h => .inl h), HX.out.2.none_up⟩
  | false =>
    have HN := Lib.hid hany
    clear hany
    obtain ⟨⟨lv, av, vs, g1, g6, g7, g8⟩, ho⟩ := hH3
    have hlen : ∃ la lc, lv = .slice la L.length lc := by
      rcases own_form g6.row with ⟨rfl, hL, _⟩ | ⟨g, cap, cur, rfl, _⟩
      · exact ⟨none, 0, by rw [hL]⟩
      · exact ⟨_, _, rfl⟩
    obtain ⟨la, lc, rfl⟩ := hlen
    have hrow := g6.row
    have hrb : ∀ k, (Value.slice la L.length lc).ownBlock = some k → k ≠ mb ∧ k < w3.heap.size := fun k hk => ⟨own_blk_ne hrow g1 (by decide) k hk, own_lt hrow hk⟩
    have HB : Hid (∀ w', Fr (fun k => (Value.slice la L.length lc).ownBlock = some k ∨ w3.heap.size ≤ k) w3 w' → Blk w' mb 54 _) := Lib.hid fun w' hf => g1.fr hf (by rintro (h | h); exact (hrb mb h).1 rfl; have := g1.lt; omega)
    have j1 := g1.cell 1 rfl
    have b0 := hfb.cell 0 rfl
    have b1 := hfb.cell 1 rfl
    have b2 := hfb.cell 2 rfl
    have HR := Lib.hid (And.intro g1 (And.intro g6 (And.intro g7 g8)))
    have hz4 := hf4.size
    have hm3 := g1.lt
    have hq3 := hfb.lt
    clear g1 g6 g7 g8 hfb
    go_upto_region 8 with (fail)
    go_region_law (first
      | (go_simp
         go_at_call 42
         refine (rcopy_any ⟨f, t, bs⟩ _ _ hs3.drew (by show bs.length ≤ 1000000; omega)).mono ?_
         rintro e w5 ⟨v, rfl, ho5, hf5⟩
         obtain ⟨va, vc, rfl⟩ : ∃ va vc, v = .slice va bs.length vc := by
           rcases own_form ho5 with ⟨h1, h2, _⟩ | ⟨g, cap, cur, h1, _⟩
           · exact ⟨none, 0, by rw [h1]; simp at h2; simp [h2]⟩
           · exact ⟨some ⟨g, 0, none⟩, cap, h1⟩
         have k0 := (HB.out w5 (hf5.of_drew.mono fun k _ h => h.elim)).cell 1 rfl
         have hnb5 : mb < w5.heap.size := by have := hf5.size; simp at this; omega
         have hrow5 := own_fr hrow hf5.of_drew (fun _ _ h => h))
      | (refine step_append_lies _ (by rfl) _ _ _ (by rfl) 0 29 i0 _ 3 40 Try.underlying22 hi0 hz0 hz1 hz2 rfl (by omega) _ _ _ (by rfl) (hrow5.alloc _)
           ⟨w5.heap.size, 0, none⟩ 1 1 [.int .i64 f, .int .i64 t, .slice va bs.length vc] (by rfl) (by rfl) (World.news_of_block (cs := #[.int .i64 f, .int .i64 t, .slice va bs.length vc]) (t := 29) (fr := (0, 0)) (heap_alloc_new w5 _)) (by simp [Value.oneCell'])
           (by omega) (by simp only [maxLen]; omega) (by omega) (by omega) (w5.heap.size + 1) (by simp) ?_
         intro gg lc' w6 hown6 hgrow hat hlt
         have hf56 : Fr (fun k => (Value.slice la L.length lc).ownBlock = some k) w5 w6 := Fr.grown ((Fr.refl (fun k => (Value.slice la L.length lc).ownBlock = some k) w5).alloc _) hgrow (fun k hk _ => hk)
         have hf6 : Fr (fun k => (Value.slice la L.length lc).ownBlock = some k ∨ w3.heap.size ≤ k) w3 w6 := hf5.of_drew.trans hf56 (fun k _ h => by rcases h with h | h; exact h.elim; exact .inl h)
         have q1 := (HB.out w6 hf6).cell 1 rfl
         have q2 := (HB.out w6 hf6).frozen 1))
    all_goals
      go_wp2_with fail
      go_ret
      obtain ⟨g1, g6, g7, g8⟩ := HR.out
      have hM := HM.out
      rw [if_neg (by rw [HN.out]; decide)] at hM
      subst hM
      have hs5 := hf5.size
      simp at hs5
      have R := rput_fin (f := f) (t := t) g1 g6 g7 g8 ho (own_base ho5) (hf5.of_drew.mono fun _ _ h => h.elim) hown6 hf56 (fun k hk => by
        simp only [Value.ownBlock] at hk
        injection hk with hk
        subst hk
        rcases hat with h | h
        · exact .inl h
        · right; omega)
      exact ⟨rfl, R.1.up (by rintro k (h | h | h); exact .inl h; (have := (ho5.lt k h).1; simp at this; right; omega); right; omega), hf4.none_up.tr R.2⟩
end Go.Proofs.Ytemjgllijlaejaa
