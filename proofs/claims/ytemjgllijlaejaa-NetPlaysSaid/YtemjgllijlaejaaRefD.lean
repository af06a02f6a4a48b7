/- The document's net: Take of none, Twice, Back. -/
import Derived.Test.YtemjgllijlaejaaRefC
namespace Go.Proofs.Ytemjgllijlaejaa
open Go.RowKit

theorem RefR.up {w : World} {mb : Nat} {N : Int} {L : List Pk} {P : List (Int × Int)} {F G : Nat → Prop} (h : RefR w mb N L P F) (hg : ∀ k, F k → G k) : RefR w mb N L P G := by
  obtain ⟨⟨lv, av, vs, h1, h6, h7, h8⟩, ho⟩ := h
  exact ⟨⟨lv, av, vs, h1, ⟨h6.len, h6.row, fun k hk => hg k (h6.rin k hk), fun i p v hp hv => ⟨(h6.body i p v hp hv).1, fun k hk => hg k ((h6.body i p v hp hv).2 k hk)⟩⟩, h7, fun k hk => hg k (h8 k hk)⟩, hg mb ho⟩
theorem rput_fin {w w3 w4 : World} {mb : Nat} {N : Int} {L : List Pk} {P : List (Int × Int)} {F : Nat → Prop} {lv av v' s : Value} {vs : List Value} {f t : Int} {bs : List UInt8}
    (hB : Blk w mb 54 #[.int .i64 N, lv, av]) (h6 : RPacks w lv L vs F) (h7 : w.ownsRow 0 70 2 av P.length (pairs P)) (h8 : ∀ k, av.ownBlock = some k → F k) (ho : F mb)
    (ho3 : w3.ownsRow 0 5 1 s bs.length (u8s bs)) (hf3 : Fr (fun k => w.heap.size ≤ k) w w3)
    (hown4 : w4.ownsRow 0 29 3 v' (L.length + 1) (flat L vs ++ [.int .i64 f, .int .i64 t, s])) (hgrow : Fr (fun k => lv.ownBlock = some k) w3 w4) (hat : ∀ k, v'.ownBlock = some k → lv.ownBlock = some k ∨ w.heap.size ≤ k) :
    RefR (w4.setCell ⟨mb, 1, none⟩ v') mb N (L ++ [⟨f, t, bs⟩]) P (fun k => F k ∨ s.ownBlock = some k ∨ w.heap.size ≤ k) ∧ Fr F w (w4.setCell ⟨mb, 1, none⟩ v') := by
  have hlv : ∀ k, lv.ownBlock = some k → k ≠ mb ∧ k < w.heap.size ∧ F k := fun k hk => ⟨own_blk_ne h6.row hB (by decide) k hk, own_lt h6.row hk, h6.rin k hk⟩
  have hf4 : Fr (fun k => lv.ownBlock = some k) w w4 := hf3.trans hgrow (fun k hk h => by rcases h with h | h; omega; exact h)
  have hb4 : Blk w4 mb 54 #[.int .i64 N, lv, av] := hB.fr hf4 (fun h => (hlv mb h).1 rfl)
  have hf5 : Fr (fun k => k = mb) w4 (w4.setCell ⟨mb, 1, none⟩ v') := Fr.set1 _ _ _ _
  have hmb : mb < w.heap.size := hB.lt
  have hv' : ∀ k, v'.ownBlock = some k → k ≠ mb := fun k hk => by
    rcases hat k hk with h | h
    · exact (hlv k h).1
    · omega
  refine ⟨⟨⟨v', av, vs ++ [s], ?_, ⟨by simp [h6.len], ?_, ?_, ?_⟩, ?_, ?_⟩, .inl ho⟩, ?_⟩
  · simpa using hb4.set_ 1 v'
  · rw [List.length_append, List.length_singleton, flat_append _ _ _ _ h6.len]
    exact own_fr hown4 hf5 hv'
  · intro k hk
    rcases hat k hk with h | h
    · exact .inl (hlv k h).2.2
    · exact .inr (.inr h)
  · intro i p v hp hv
    by_cases hi : i < L.length
    · rw [List.getElem?_append_left hi] at hp
      rw [List.getElem?_append_left (by rw [h6.len]; exact hi)] at hv
      obtain ⟨q1, q2⟩ := h6.body i p v hp hv
      have e1 := own_own_ne q1 h6.row (by decide)
      exact ⟨own_fr (own_fr q1 hf4 (fun k hk h => e1 k k hk h rfl)) hf5 (own_blk_ne q1 hB (by decide)), fun k hk => .inl (q2 k hk)⟩
    · have hi' : i = L.length := by
        have := (List.getElem?_eq_some_iff.1 hp).1
        simp at this; omega
      subst hi'
      rw [List.getElem?_append_right (Nat.le_refl _)] at hp
      rw [List.getElem?_append_right (by rw [h6.len]; exact Nat.le_refl _), h6.len] at hv
      simp at hp hv
      subst hp hv
      have e1 := own_own_ne ho3 (own_fr h6.row hf3 (fun k hk h => by have := (hlv k hk).2.1; omega)) (by decide)
      have e2 := own_blk_ne ho3 (hB.fr hf3 (by omega)) (by decide)
      exact ⟨own_fr (own_fr ho3 hgrow (fun k hk h => e1 k k hk h rfl)) hf5 (fun k hk h => e2 k hk h), fun k hk => .inr (.inl hk)⟩
  · have e1 := own_own_ne h7 h6.row (by decide)
    exact own_fr (own_fr h7 hf4 (fun k hk h => e1 k k hk h rfl)) hf5 (own_blk_ne h7 hB (by decide))
  · exact fun k hk => .inl (h8 k hk)
  · exact (hf4.mono (Z := F) fun k _ h => (hlv k h).2.2).trans hf5 (by rintro k _ (h | rfl); exact h; exact ho)

set_option maxRecDepth 100000 in
set_option maxHeartbeats 2000000 in
theorem rtake_none (mb : Nat) (N : Int) (L : List Pk) (P : List (Int × Int)) (F : Nat → Prop) (i : Int) (hp : at? L i = none) (w : World) (h : RefR w mb N L P F) :
    Calls Try.prog 35 #[.pointer (some ⟨mb, 0, none⟩), .int .i64 i] w fun e w' => e = .returned (.tuple #[.agg #[.int .i64 0, .int .i64 0, .slice none 0 0], .bool false]) ∧ Fr (fun _ => False) w w' := by
  obtain ⟨w1, hw1⟩ : ∃ w1, w1 = w.alloc (.cells #[.int .i64 0, .int .i64 0, .slice none 0 0] 29) := ⟨_, rfl⟩
  have hf1 : Fr (fun _ => False) w w1 := by rw [hw1]; exact (Fr.refl _ w).alloc _
  have hb1 : Blk w1 w.heap.size 29 #[.int .i64 0, .int .i64 0, .slice none 0 0] := by rw [hw1]; exact Blk.new _ _ _
  have HW1 := Lib.hid hw1
  have HP := Lib.hid hp
  clear hw1 hp
  go_enter Try.func35, Try.ntmps35
  go_upto_region 1 with (fail)
  rw [← HW1.out]
  clear HW1
  go_wp2_with fail
  refine (rlook_none mb N L P F i HP.out w1 (h.fr hf1 (fun _ _ h => h))).mono ?_
  rintro e w2 ⟨rfl, hf2⟩
  have hb2 := hb1.fr hf2 (fun h => h)
  have hz := hb2.lt
  have r0 := hb2.frozen
  have r1 := hb2.cell 0 rfl
  have r2 := hb2.cell 1 rfl
  have r3 := hb2.cell 2 rfl
  go_wp2_with fail
  have hX : Fr (fun x => x = w.heap.size) w2 ((((w2.setCell ⟨w.heap.size, 0, none⟩ (.int .i64 0)).setCell ⟨w.heap.size, 1, none⟩ (.int .i64 0)).setCell ⟨w.heap.size, 2, none⟩ (.slice none 0 0)).alloc (.cells #[.int .i64 0, .int .i64 0, .slice none 0 0] 29)) :=
    (((Fr.set1 w2 w.heap.size 0 _).setCell (p := ⟨w.heap.size, 1, none⟩) (fun _ => rfl) _).setCell (p := ⟨w.heap.size, 2, none⟩) (fun _ => rfl) _).alloc _
  have hW := (((hb2.set_ 0 (.int .i64 0)).set_ 1 (.int .i64 0)).set_ 2 (.slice none 0 0)).alloc (.cells #[.int .i64 0, .int .i64 0, .slice none 0 0] 29)
  refine bodyPost_ret (results_row_tmp rfl _ _ w.heap.size 29 #[.int .i64 0, .int .i64 0, .slice none 0 0] (0, 0) _ rfl ?_ Try.underlying29 rfl (by kernel_rfl)) rfl ⟨rfl, ?_⟩
  · show Blk _ w.heap.size 29 #[.int .i64 0, .int .i64 0, .slice none 0 0]
    simpa using hW
  · exact (hf1.tr hf2).trans hX (by rintro x hx (h | h); exact h; omega)

theorem rback_none (mb : Nat) (N : Int) (L : List Pk) (P : List (Int × Int)) (F : Nat → Prop) (i : Int) (hp : at? L i = none) (w : World) (h : RefR w mb N L P F) :
    Calls Try.prog 37 #[.pointer (some ⟨mb, 0, none⟩), .int .i64 i] w fun e w' => e = .returned (.bool false) ∧ Fr (fun _ => False) w w' := by
  go_enter Try.func37, Try.ntmps37
  go_wp2_with fail
  refine (rtake_none mb N L P F i hp w h).mono ?_
  rintro e w2 ⟨rfl, hf2⟩
  go_wp2_with fail
  go_ret
  exact ⟨rfl, hf2.alloc _⟩
theorem rtwice_none (mb : Nat) (N : Int) (L : List Pk) (P : List (Int × Int)) (F : Nat → Prop) (i : Int) (hp : at? L i = none) (w : World) (h : RefR w mb N L P F) :
    Calls Try.prog 36 #[.pointer (some ⟨mb, 0, none⟩), .int .i64 i] w fun e w' => e = .returned (.bool false) ∧ Fr (fun _ => False) w w' := by
  go_enter Try.func36, Try.ntmps36
  go_wp2_with fail
  refine (rlook_none mb N L P F i hp w h).mono ?_
  rintro e w2 ⟨rfl, hf2⟩
  go_wp2_with fail
  go_ret
  exact ⟨rfl, hf2.alloc _⟩
theorem rtwice_full (mb : Nat) (N : Int) (L : List Pk) (P : List (Int × Int)) (F : Nat → Prop) (i : Int) (p : Pk) (hp : at? L i = some p) (hb : p.b.length ≤ 1000000) (hL : 256 ≤ L.length) (w : World) (h : RefR w mb N L P F) :
    Calls Try.prog 36 #[.pointer (some ⟨mb, 0, none⟩), .int .i64 i] w fun e w' => e = .returned (.bool false) ∧ Fr (fun _ => False) w w' := by
  have HP := Lib.hid hp
  have hL' : (256 : Int) ≤ (L.length : Int) := by omega
  clear hp
  go_enter Try.func36, Try.ntmps36
  go_wp2_with fail
  refine (rlook_some mb N L P F i p HP.out hb w h).mono ?_
  rintro e w2 ⟨v, rfl, ho2, hf2⟩
  obtain ⟨a, c, c1, hmb, -⟩ := (h.fr hf2 (fun _ _ h => h)).row
  obtain ⟨va, vc, rfl⟩ : ∃ va vc, v = .slice va p.b.length vc := by
    rcases own_form ho2 with ⟨h1, h2, _⟩ | ⟨g, cap, cur, h1, _⟩
    · exact ⟨none, 0, by rw [h1, h2]⟩
    · exact ⟨some ⟨g, 0, none⟩, cap, h1⟩
  go_wp2_with fail
  go_ret
  exact ⟨rfl, hf2.alloc _⟩

set_option maxRecDepth 100000 in
set_option maxHeartbeats 4000000 in
theorem rtwice_some (mb : Nat) (N : Int) (L : List Pk) (P : List (Int × Int)) (F : Nat → Prop) (i : Int) (p : Pk) (hp : at? L i = some p) (hb : p.b.length ≤ 1000000) (hL : L.length < 256) (w : World) (h : RefR w mb N L P F) :
    Calls Try.prog 36 #[.pointer (some ⟨mb, 0, none⟩), .int .i64 i] w fun e w' => e = .returned (.bool true) ∧
      RefR w' mb N (L ++ [p]) P (fun k => F k ∨ w.heap.size ≤ k) ∧ Fr F w w' := by
  obtain ⟨i0, hi0, hz0, hz1, hz2⟩ := info_parts pkinfo
  have HP := Lib.hid hp
  have hL' : ¬ (256 : Int) ≤ (L.length : Int) := by omega
  clear hp
  obtain ⟨f, t, bs⟩ := p
  simp only at hb
  go_enter Try.func36, Try.ntmps36
  go_wp2_with fail
  refine (rlook_some mb N L P F i ⟨f, t, bs⟩ HP.out hb w h).mono ?_
  rintro e w2 ⟨v, rfl, ho2, hf2⟩
  simp only at ho2
  obtain ⟨va, vc, rfl⟩ : ∃ va vc, v = .slice va bs.length vc := by
    rcases own_form ho2 with ⟨h1, h2, _⟩ | ⟨g, cap, cur, h1, _⟩
    · exact ⟨none, 0, by rw [h1]; simp at h2; simp [h2]⟩
    · exact ⟨some ⟨g, 0, none⟩, cap, h1⟩
  obtain ⟨w3, hw3⟩ : ∃ w3, w3 = w2.alloc (.cells #[.int .i64 f, .int .i64 t, .slice va bs.length vc] 29) := ⟨_, rfl⟩
  have hf3' : Fr (fun _ => False) w2 w3 := by rw [hw3]; exact (Fr.refl _ w2).alloc _
  have hb3 : Blk w3 w2.heap.size 29 #[.int .i64 f, .int .i64 t, .slice va bs.length vc] := by rw [hw3]; exact Blk.new _ _ _
  have ho3 := own_fr ho2 hf3' (fun _ _ h => h)
  have hf3 := hf2.tr hf3'
  have HW3 := Lib.hid hw3
  have hs2 := hf2.size
  have hH3 := h.fr hf3 (fun _ _ h => h)
  clear hw3 hf3' ho2 hf2 h
  go_upto_region 2 with (fail)
  rw [← HW3.out]
  clear HW3
  obtain ⟨q, hq⟩ : ∃ q, q = w2.heap.size := ⟨_, rfl⟩
  rw [← hq] at hb3 hs2 ⊢
  clear hq
  obtain ⟨⟨lv, av, vs, h1, h6, h7, h8⟩, ho⟩ := hH3
  have hlen : ∃ la lc, lv = .slice la L.length lc := by
    rcases own_form h6.row with ⟨rfl, hL, _⟩ | ⟨g, cap, cur, rfl, _⟩
    · exact ⟨none, 0, by rw [hL]⟩
    · exact ⟨_, _, rfl⟩
  obtain ⟨la, lc, rfl⟩ := hlen
  have hrow := h6.row
  have j0 := h1.cell 1 rfl
  have jf := h1.frozen 1
  have j1 := hb3.cell 0 rfl
  have j2 := hb3.cell 1 rfl
  have j3 := hb3.cell 2 rfl
  have hmb3 := h1.lt
  have hq3 := hb3.lt
  have hrb : ∀ k, (Value.slice la L.length lc).ownBlock = some k → k ≠ mb := fun k hk => own_blk_ne hrow h1 (by decide) k hk
  have HB : Hid (∀ w', Fr (fun k => (Value.slice la L.length lc).ownBlock = some k) w3 w' → Blk w' mb 54 _) := Lib.hid fun w' hf => h1.fr hf (fun h => hrb mb h rfl)
  have HR := Lib.hid (And.intro h1 (And.intro h6 (And.intro h7 (And.intro h8 ho3))))
  have hsz := hf3.size
  clear h1 h6 h7 h8 ho3 hb3
  go_upto_region 4 with (fail)
  go_region_law (first
      | (refine step_append_lies _ (by rfl) _ _ _ (by rfl) 0 29 i0 _ 3 40 Try.underlying22 hi0 hz0 hz1 hz2 rfl (by omega) _ _ _ (by rfl) (own_fr hrow (((Fr.refl (fun _ => False) w3).alloc _).drew) (fun _ _ h => h))
           ⟨w3.heap.size, 0, none⟩ 1 1 [.int .i64 f, .int .i64 t, .slice va bs.length vc] (by rfl) (by rfl) (World.news_of_block (cs := #[.int .i64 f, .int .i64 t, .slice va bs.length vc]) (t := 29) (fr := (0, 0)) (heap_alloc_new w3 _)) (by simp [Value.oneCell'])
           (by omega) (by simp only [maxLen]; omega) (by omega) (by omega) (w3.heap.size + 1) (by simp [World.drew]) ?_
         intro gg lc' w4 hown4 hgrow hat hlt
         have hf4 : Fr (fun k => (Value.slice la L.length lc).ownBlock = some k) w3 w4 := Fr.grown (((Fr.refl (fun k => (Value.slice la L.length lc).ownBlock = some k) w3).alloc _).drew) hgrow (fun k hk _ => hk)
         have q1 := (HB.out w4 hf4).cell 1 rfl
         have q2 := (HB.out w4 hf4).frozen 1))
  all_goals
    go_wp2_with fail
    go_ret
    obtain ⟨h1, h6, h7, h8, ho3⟩ := HR.out
    have R := rput_fin (f := f) (t := t) h1 h6 h7 h8 ho (own_base ho3) (Fr.refl _ w3) hown4 hf4 (fun k hk => by
      simp only [Value.ownBlock] at hk
      injection hk with hk
      subst hk
      rcases hat with h | h
      · exact .inl h
      · right; omega)
    exact ⟨rfl, R.1.up (by rintro k (h | h | h); exact .inl h; exact .inr (ho3.lt k h).1; right; omega), hf3.none_up.tr R.2⟩

set_option maxRecDepth 100000 in
set_option maxHeartbeats 4000000 in
theorem rback_some (mb : Nat) (N : Int) (L : List Pk) (P : List (Int × Int)) (F : Nat → Prop) (i : Int) (p : Pk) (hp : at? L i = some p) (hb : p.b.length ≤ 1000000) (hL : L.length ≤ 256) (w : World) (h : RefR w mb N L P F) (hF : ∀ k, F k → k < w.heap.size) :
    Calls Try.prog 37 #[.pointer (some ⟨mb, 0, none⟩), .int .i64 i] w fun e w' => e = .returned (.bool true) ∧
      RefR w' mb N (L.eraseIdx i.toNat ++ [p]) P (fun k => F k ∨ w.heap.size ≤ k) ∧ Fr F w w' := by
  obtain ⟨i0, hi0, hz0, hz1, hz2⟩ := info_parts pkinfo
  have HP := Lib.hid hp
  clear hp
  obtain ⟨f, t, bs⟩ := p
  simp only at hb
  have hlr : (L.eraseIdx i.toNat).length ≤ 256 := by have := List.length_eraseIdx_le L i.toNat; omega
  go_enter Try.func37, Try.ntmps37
  go_wp2_with fail
  refine (rtake_some mb N L P F i ⟨f, t, bs⟩ HP.out hb (by omega) w h hF).mono ?_
  rintro e w2 ⟨v, rfl, ho2, hR2, hf2⟩
  simp only at ho2
  obtain ⟨va, vc, rfl⟩ : ∃ va vc, v = .slice va bs.length vc := by
    rcases own_form ho2 with ⟨h1, h2, _⟩ | ⟨g, cap, cur, h1, _⟩
    · exact ⟨none, 0, by rw [h1]; simp at h2; simp [h2]⟩
    · exact ⟨some ⟨g, 0, none⟩, cap, h1⟩
  obtain ⟨w3, hw3⟩ : ∃ w3, w3 = w2.alloc (.cells #[.int .i64 f, .int .i64 t, .slice va bs.length vc] 29) := ⟨_, rfl⟩
  have hf3' : Fr (fun _ => False) w2 w3 := by rw [hw3]; exact (Fr.refl _ w2).alloc _
  have hb3 : Blk w3 w2.heap.size 29 #[.int .i64 f, .int .i64 t, .slice va bs.length vc] := by rw [hw3]; exact Blk.new _ _ _
  have ho3 := own_fr ho2 hf3' (fun _ _ h => h)
  have hf3 := hf2.trans hf3' (Z := F) (fun k _ h => h.elim id False.elim)
  have HW3 := Lib.hid hw3
  have hs2 := hf2.size
  have hH3 := hR2.fr hf3' (fun _ _ h => h)
  have HL := Lib.hid (rfl : L.eraseIdx i.toNat = L.eraseIdx i.toNat)
  generalize hL2 : L.eraseIdx i.toNat = L2 at hH3 hlr HL
  have HL2 := Lib.hid hL2
  clear hw3 hf3' ho2 hf2 h hR2 hL2 HL
  go_upto_region 2 with (fail)
  rw [← HW3.out]
  clear HW3
  obtain ⟨q, hq⟩ : ∃ q, q = w2.heap.size := ⟨_, rfl⟩
  rw [← hq] at hb3 hs2 ⊢
  clear hq
  obtain ⟨⟨lv, av, vs, h1, h6, h7, h8⟩, ho⟩ := hH3
  have hlen : ∃ la lc, lv = .slice la L2.length lc := by
    rcases own_form h6.row with ⟨rfl, hL, _⟩ | ⟨g, cap, cur, rfl, _⟩
    · exact ⟨none, 0, by rw [hL]⟩
    · exact ⟨_, _, rfl⟩
  obtain ⟨la, lc, rfl⟩ := hlen
  have hrow := h6.row
  have j0 := h1.cell 1 rfl
  have jf := h1.frozen 1
  have j1 := hb3.cell 0 rfl
  have j2 := hb3.cell 1 rfl
  have j3 := hb3.cell 2 rfl
  have hmb3 := h1.lt
  have hq3 := hb3.lt
  have hrb : ∀ k, (Value.slice la L2.length lc).ownBlock = some k → k ≠ mb := fun k hk => own_blk_ne hrow h1 (by decide) k hk
  have HB : Hid (∀ w', Fr (fun k => (Value.slice la L2.length lc).ownBlock = some k) w3 w' → Blk w' mb 54 _) := Lib.hid fun w' hf => h1.fr hf (fun h => hrb mb h rfl)
  have HR := Lib.hid (And.intro h1 (And.intro h6 (And.intro h7 (And.intro h8 ho3))))
  have hsz := hf3.size
  clear h1 h6 h7 h8 ho3 hb3
  go_upto_region 3 with (fail)
  go_region_law (first
      | (refine step_append_lies _ (by rfl) _ _ _ (by rfl) 0 29 i0 _ 3 40 Try.underlying22 hi0 hz0 hz1 hz2 rfl (by omega) _ _ _ (by rfl) (own_fr hrow (((Fr.refl (fun _ => False) w3).alloc _).drew) (fun _ _ h => h))
           ⟨w3.heap.size, 0, none⟩ 1 1 [.int .i64 f, .int .i64 t, .slice va bs.length vc] (by rfl) (by rfl) (World.news_of_block (cs := #[.int .i64 f, .int .i64 t, .slice va bs.length vc]) (t := 29) (fr := (0, 0)) (heap_alloc_new w3 _)) (by simp [Value.oneCell'])
           (by omega) (by simp only [maxLen]; omega) (by omega) (by omega) (w3.heap.size + 1) (by simp [World.drew]) ?_
         intro gg lc' w4 hown4 hgrow hat hlt
         have hf4 : Fr (fun k => (Value.slice la L2.length lc).ownBlock = some k) w3 w4 := Fr.grown (((Fr.refl (fun k => (Value.slice la L2.length lc).ownBlock = some k) w3).alloc _).drew) hgrow (fun k hk _ => hk)
         have q1 := (HB.out w4 hf4).cell 1 rfl
         have q2 := (HB.out w4 hf4).frozen 1))
  all_goals
    go_wp2_with fail
    go_ret
    obtain ⟨h1, h6, h7, h8, ho3⟩ := HR.out
    have R := rput_fin (f := f) (t := t) h1 h6 h7 h8 ho (own_base ho3) (Fr.refl _ w3) hown4 hf4 (fun k hk => by
      simp only [Value.ownBlock] at hk
      injection hk with hk
      subst hk
      rcases hat with h | h
      · exact .inl h
      · right; omega)
    rw [HL2.out]
    exact ⟨rfl, R.1.up (by rintro k ((h | h) | h | h); exact .inl h; exact .inr h; exact .inr (ho3.lt k h).1; right; omega), hf3.trans R.2 (by rintro k hk (h | h | h); exact h; exact h; omega)⟩
end Go.Proofs.Ytemjgllijlaejaa
