/- Take, Drop, Look. -/
import Derived.Test.YtpffmfjphlaiaaaNetE
namespace Go.Proofs.Ytpffmfjphlaiaaa
open Go.RowKit

/-- The length of the row stands in the Net. -/
theorem NetR.row {w : World} {nb : Nat} {N : Int} {L : List Pk} {A : Nat → Nat → Bool} {F : Nat → Prop} (h : NetR w nb N L A F) : ∃ a c, w.cell? ⟨nb, 1, none⟩ = some (.slice a L.length c) ∧ nb < w.heap.size := by
  obtain ⟨⟨cs, lv, vs, h1, h2, h3, h4, h5, h6⟩, ho, -, -, -⟩ := h
  rcases own_form h6.row with ⟨rfl, hL, _⟩ | ⟨g, cap, cur, rfl, _⟩
  · exact ⟨none, 0, by rw [hL]; exact h1.cell 1 h4, h1.lt⟩
  · exact ⟨_, _, h1.cell 1 h4, h1.lt⟩

/-- The packet at a place. -/
def at? (L : List Pk) (i : Int) : Option Pk := if 0 ≤ i then L[i.toNat]? else none
theorem at?_some {L : List Pk} {i : Int} {p : Pk} (h : at? L i = some p) : 0 ≤ i ∧ i.toNat < L.length ∧ L[i.toNat]? = some p := by
  unfold at? at h
  split at h
  · exact ⟨by assumption, (List.getElem?_eq_some_iff.1 h).1, h⟩
  · cases h
theorem at?_yes {L : List Pk} {i : Int} {p : Pk} (h : at? L i = some p) : decide (0 ≤ i ∧ i < (L.length : Int)) = true := by
  obtain ⟨h0, h1, _⟩ := at?_some h
  simp; omega
theorem at?_no {L : List Pk} {i : Int} (h : at? L i = none) : decide (0 ≤ i ∧ i < (L.length : Int)) = false := by
  unfold at? at h
  split at h
  · have := List.getElem?_eq_none_iff.1 h
    simp; omega
  · simp; omega

set_option maxRecDepth 100000 in
set_option maxHeartbeats 2000000 in
theorem take_some (nb : Nat) (N : Int) (L : List Pk) (A : Nat → Nat → Bool) (F : Nat → Prop) (i : Int) (p : Pk) (hp : at? L i = some p) (w : World) (h : NetR w nb N L A F) (hF : ∀ k, F k → k < w.heap.size) :
    Calls Try.prog 10 #[.pointer (some ⟨nb, 0, none⟩), .int .i64 i] w fun e w' => ∃ g cap, e = .returned (.tuple #[.agg #[.int .i64 p.f, .int .i64 p.t, .slice (some ⟨g, 0, none⟩) p.b.length cap], .bool true]) ∧
      w'.ownsRow 0 5 1 (.slice (some ⟨g, 0, none⟩) p.b.length cap) p.b.length (u8s p.b) ∧ F g ∧ NetR w' nb N (L.eraseIdx i.toNat) A (fun x => F x ∧ x ≠ g) ∧ Fr F w w' := by
  obtain ⟨a, c, c1, hnb⟩ := h.row
  have hy := Lib.hid (at?_yes hp)
  obtain ⟨h0, hi, hp'⟩ := at?_some hp
  obtain ⟨k, rfl⟩ := Int.eq_ofNat_of_zero_le h0
  have HP := Lib.hid hp'
  clear hp hp' hi
  go_enter Try.func10, Try.ntmps10
  go_wp2_with fail
  refine (there_any nb k a L.length c _ (al_cell c1 _)).mono ?_
  rintro e w1 ⟨rfl, rfl⟩
  rw [hy.out]
  obtain ⟨w2, hw2⟩ : ∃ w2, w2 = w.alloc (.cells #[.int .i64 0, .int .i64 0, .slice none 0 0] 40) := ⟨_, rfl⟩
  rw [← hw2]
  have hF2 : Fr (fun _ => False) w w2 := by rw [hw2]; exact (Fr.refl _ w).alloc _
  have hB2 : Blk w2 w.heap.size 40 #[.int .i64 0, .int .i64 0, .slice none 0 0] := by rw [hw2]; exact Blk.new _ _ _
  clear hw2
  have hR2 := h.fr hF2 (fun _ _ h => h)
  go_wp2_with fail
  refine (cut_any nb N L A F k p HP.out w2 hR2).mono ?_
  rintro e w3 ⟨g, cap, rfl, ho3, hFg, hR3, hF3⟩
  have hB3 := hB2.fr hF3 (fun h => absurd (hF _ h) (by omega))
  have q0 := hB3.cell 0 rfl
  have q1 := hB3.cell 1 rfl
  have q2 := hB3.cell 2 rfl
  have q3 := hB3.frozen
  have HR := Lib.hid (And.intro ho3 (And.intro hFg (And.intro hR3 (And.intro hF3 hB3))))
  clear ho3 hFg hR3 hF3 hB3
  go_wp2_with fail
  obtain ⟨ho3, hFg, hR3, hF3, hB3⟩ := HR.out
  have hX : Fr (fun x => x = w.heap.size) w3 (((w3.setCell ⟨w.heap.size, 0, none⟩ (.int .i64 p.f)).setCell ⟨w.heap.size, 1, none⟩ (.int .i64 p.t)).setCell ⟨w.heap.size, 2, none⟩ (.slice (some ⟨g, 0, none⟩) p.b.length cap)) :=
    ((Fr.set1 w3 w.heap.size 0 _).setCell (p := ⟨w.heap.size, 1, none⟩) (fun _ => rfl) _).setCell (p := ⟨w.heap.size, 2, none⟩) (fun _ => rfl) _
  have hW := ((hB3.set_ 0 (.int .i64 p.f)).set_ 1 (.int .i64 p.t)).set_ 2 (.slice (some ⟨g, 0, none⟩) p.b.length cap)
  refine bodyPost_ret (results_row_tmp rfl _ _ w.heap.size 40 #[.int .i64 p.f, .int .i64 p.t, .slice (some ⟨g, 0, none⟩) p.b.length cap] (0, 0) _ rfl ?_ Try.underlying40 rfl (by kernel_rfl)) rfl ⟨g, cap, rfl, ?_, hFg, ?_, ?_⟩
  · show Blk _ w.heap.size 40 #[.int .i64 p.f, .int .i64 p.t, .slice (some ⟨g, 0, none⟩) p.b.length cap]
    simpa using hW
  · exact own_fr ho3 hX (fun x hx e => by simp only [Value.ownBlock] at hx; injection hx with hx; have := hF _ hFg; omega)
  · exact hR3.fr hX (fun x hx e => by have := hF _ hx.1; omega)
  · exact (hF2.none_up.tr hF3).trans hX (fun x hx h => by rcases h with h | h; exact h; omega)

set_option maxHeartbeats 1000000 in
theorem take_none (nb : Nat) (N : Int) (L : List Pk) (A : Nat → Nat → Bool) (F : Nat → Prop) (i : Int) (hp : at? L i = none) (w : World) (h : NetR w nb N L A F) :
    Calls Try.prog 10 #[.pointer (some ⟨nb, 0, none⟩), .int .i64 i] w fun e w' => e = .returned (.tuple #[.agg #[.int .i64 0, .int .i64 0, .slice none 0 0], .bool false]) ∧ Fr (fun _ => False) w w' := by
  obtain ⟨a, c, c1, hnb⟩ := h.row
  have hy := Lib.hid (at?_no hp)
  clear hp
  go_enter Try.func10, Try.ntmps10
  go_wp2_with fail
  refine (there_any nb i a L.length c _ (al_cell c1 _)).mono ?_
  rintro e w1 ⟨rfl, rfl⟩
  rw [hy.out]
  go_wp2_with fail
  refine bodyPost_ret (results_row_tmp rfl _ _ w.heap.size 40 #[.int .i64 0, .int .i64 0, .slice none 0 0] (0, 0) _ rfl ?_ Try.underlying40 rfl (by kernel_rfl)) rfl ⟨rfl, ?_⟩
  · exact Blk.new w _ _
  · exact (Fr.refl _ w).alloc _

set_option maxHeartbeats 1000000 in
theorem drop_some (nb : Nat) (N : Int) (L : List Pk) (A : Nat → Nat → Bool) (F : Nat → Prop) (i : Int) (p : Pk) (hp : at? L i = some p) (w : World) (h : NetR w nb N L A F) :
    Calls Try.prog 17 #[.pointer (some ⟨nb, 0, none⟩), .int .i64 i] w fun e w' => e = .returned (.bool true) ∧ ∃ G, NetR w' nb N (L.eraseIdx i.toNat) A G ∧ (∀ x, G x → F x) ∧ Fr F w w' := by
  obtain ⟨a, c, c1, hnb⟩ := h.row
  have hy := Lib.hid (at?_yes hp)
  obtain ⟨h0, hi, hp'⟩ := at?_some hp
  obtain ⟨k, rfl⟩ := Int.eq_ofNat_of_zero_le h0
  have HP := Lib.hid hp'
  clear hp hp' hi
  go_enter Try.func17, Try.ntmps17
  go_wp2_with fail
  refine (there_any nb k a L.length c w c1).mono ?_
  rintro e w1 ⟨rfl, rfl⟩
  rw [hy.out]
  go_wp2_with fail
  refine (cut_any nb N L A F k p HP.out w h).mono ?_
  rintro e w3 ⟨g, cap, rfl, ho3, hFg, hR3, hF3⟩
  go_wp2_with fail
  go_ret
  exact ⟨rfl, _, hR3, fun x h => h.1, hF3⟩

theorem drop_none (nb : Nat) (N : Int) (L : List Pk) (A : Nat → Nat → Bool) (F : Nat → Prop) (i : Int) (hp : at? L i = none) (w : World) (h : NetR w nb N L A F) :
    Calls Try.prog 17 #[.pointer (some ⟨nb, 0, none⟩), .int .i64 i] w fun e w' => e = .returned (.bool false) ∧ w' = w := by
  obtain ⟨a, c, c1, hnb⟩ := h.row
  have hy := Lib.hid (at?_no hp)
  clear hp
  go_enter Try.func17, Try.ntmps17
  go_wp2_with fail
  refine (there_any nb i a L.length c w c1).mono ?_
  rintro e w1 ⟨rfl, rfl⟩
  rw [hy.out]
  go_wp2_with fail
  go_ret
  exact ⟨rfl, rfl⟩

theorem back_none (nb : Nat) (N : Int) (L : List Pk) (A : Nat → Nat → Bool) (F : Nat → Prop) (i : Int) (hp : at? L i = none) (w : World) (h : NetR w nb N L A F) :
    Calls Try.prog 19 #[.pointer (some ⟨nb, 0, none⟩), .int .i64 i] w fun e w' => e = .returned (.bool false) ∧ w' = w := by
  obtain ⟨a, c, c1, hnb⟩ := h.row
  have hy := Lib.hid (at?_no hp)
  clear hp
  go_enter Try.func19, Try.ntmps19
  go_wp2_with fail
  refine (there_any nb i a L.length c w c1).mono ?_
  rintro e w1 ⟨rfl, rfl⟩
  rw [hy.out]
  go_wp2_with fail
  go_ret
  exact ⟨rfl, rfl⟩

/-- What a packet put behind all leaves, its body there before. -/
theorem put_old {w2 w3 w4 : World} {nb : Nat} {N : Int} {L : List Pk} {A : Nat → Nat → Bool} {F : Nat → Prop} {cs : Array Value} {lv : Value} {vs : List Value} {o : Obj} {f t : Int} {bs : List UInt8} {g cap gg lc' : Nat}
    (hB : Blk w2 nb 65 cs) (hsz : cs.size = 146) (h0 : cs[0]? = some (.int .i64 N)) (h5 : ∀ a b, a < 12 → b < 12 → cs[2 + a * 12 + b]? = some (.bool (A a b))) (h6 : Packs w2 lv L vs F) (ho : F nb) (n1 : 1 ≤ N) (n12 : N ≤ 12)
    (hL : L.length < 256) (ho3 : w3.ownsRow 0 5 1 (.slice (some ⟨g, 0, none⟩) bs.length cap) bs.length (u8s bs)) (hg3 : ¬ F g) (hf3 : Fr (fun k => w2.heap.size ≤ k) w2 w3)
    (hown4 : w4.ownsRow 0 40 3 (.slice (some ⟨gg, 0, none⟩) (L.length + 1) lc') (L.length + 1) (flat L vs ++ [.int .i64 f, .int .i64 t, .slice (some ⟨g, 0, none⟩) bs.length cap]))
    (hgrow : (w3.alloc o).grownBy w4 lv.ownBlock) (hat : lv.ownBlock = some gg ∨ gg = w3.heap.size + 1) :
    NetR (w4.setCell ⟨nb, 1, none⟩ (.slice (some ⟨gg, 0, none⟩) (L.length + 1) lc')) nb N (L ++ [⟨f, t, bs⟩]) A (fun k => F k ∨ k = g ∨ w2.heap.size ≤ k) ∧ Fr F w2 (w4.setCell ⟨nb, 1, none⟩ (.slice (some ⟨gg, 0, none⟩) (L.length + 1) lc')) := by
  have hlv : ∀ k, lv.ownBlock = some k → k ≠ nb ∧ k < w2.heap.size ∧ F k := fun k hk => ⟨own_blk_ne h6.row hB (by decide) k hk, own_lt h6.row hk, h6.rin k hk⟩
  have hf4 : Fr (fun k => lv.ownBlock = some k) w2 w4 := Fr.grown ((hf3.mono (Z := fun k => lv.ownBlock = some k) fun k hk h => by omega).alloc o) hgrow (fun k hk _ => hk)
  have hb4 : Blk w4 nb 65 cs := hB.fr hf4 (fun h => (hlv nb h).1 rfl)
  have hf34 : Fr (fun k => lv.ownBlock = some k) w3 w4 := Fr.grown ((Fr.refl _ w3).alloc o) hgrow (fun k hk _ => hk)
  have hf5 : Fr (fun k => k = nb) w4 (w4.setCell ⟨nb, 1, none⟩ (.slice (some ⟨gg, 0, none⟩) (L.length + 1) lc')) := Fr.set1 _ _ _ _
  have hnb : nb < w2.heap.size := hB.lt
  have hggne : gg ≠ nb := by
    rcases hat with h | h
    · exact (hlv gg h).1
    · have := hf3.size; omega
  refine ⟨⟨⟨_, .slice (some ⟨gg, 0, none⟩) (L.length + 1) lc', vs ++ [.slice (some ⟨g, 0, none⟩) bs.length cap], hb4.set_ 1 _, by simp [hsz], ?_, ?_, ?_, ?_⟩, .inl ho, n1, n12, by simp; omega⟩, ?_⟩
  · rw [Array.getElem?_setIfInBounds_ne (by omega)]; exact h0
  · rw [Array.getElem?_setIfInBounds_self_of_lt (by omega)]
  · intro a b ha hb
    rw [Array.getElem?_setIfInBounds_ne (by omega)]; exact h5 a b ha hb
  · refine ⟨by simp [h6.len], ?_, ?_, ?_, ?_⟩
    · rw [List.length_append, List.length_singleton, flat_append _ _ _ _ h6.len]
      exact own_fr hown4 hf5 (fun k hk => by simp only [Value.ownBlock] at hk; injection hk with hk; rw [← hk]; exact hggne)
    · intro k hk
      simp only [Value.ownBlock] at hk
      injection hk with hk
      subst hk
      rcases hat with h | h
      · exact .inl (hlv gg h).2.2
      · right; right; have := hf3.size; omega
    · intro i p v hp hv
      by_cases hi : i < L.length
      · rw [List.getElem?_append_left hi] at hp
        rw [List.getElem?_append_left (by rw [h6.len]; exact hi)] at hv
        obtain ⟨q1, k, hk, hF⟩ := h6.body i p v hp hv
        have e1 := own_own_ne q1 h6.row (by decide)
        exact ⟨own_fr (own_fr q1 hf4 (fun k hk h => e1 k k hk h rfl)) hf5 (own_blk_ne q1 hB (by decide)), k, hk, .inl hF⟩
      · have hi' : i = L.length := by
          have := (List.getElem?_eq_some_iff.1 hp).1
          simp at this; omega
        subst hi'
        rw [List.getElem?_append_right (Nat.le_refl _)] at hp
        rw [List.getElem?_append_right (by rw [h6.len]; exact Nat.le_refl _), h6.len] at hv
        simp at hp hv
        subst hp hv
        refine ⟨own_fr (own_fr ho3 hf34 (fun k hk h => ?_)) hf5 (fun k hk h => ?_), g, rfl, .inr (.inl rfl)⟩
        · simp only [Value.ownBlock] at hk
          injection hk with hk
          subst hk
          exact hg3 (hlv _ h).2.2
        · simp only [Value.ownBlock] at hk
          injection hk with hk
          subst hk; subst h
          exact hg3 ho
    · rw [List.map_append, List.nodup_append]
      refine ⟨h6.apart, by simp, ?_⟩
      intro x hx y hy hxy
      subst hxy
      simp only [List.mem_map] at hx
      obtain ⟨v, hv, rfl⟩ := hx
      simp only [List.map_cons, List.map_nil, List.mem_singleton] at hy
      obtain ⟨i, hi, rfl⟩ := List.getElem_of_mem hv
      have hiL : i < L.length := by rw [← h6.len]; exact hi
      obtain ⟨q1, k, hk, hF⟩ := h6.body i L[i] vs[i] (List.getElem?_eq_getElem hiL) (List.getElem?_eq_getElem hi)
      rw [hk] at hy
      simp only [Value.ownBlock] at hy
      injection hy with hy
      subst hy
      exact hg3 hF
  · exact (hf4.mono (Z := F) fun k _ h => (hlv k h).2.2).trans hf5 (by rintro k _ (h | rfl); exact h; exact ho)

set_option maxRecDepth 100000 in
set_option maxHeartbeats 4000000 in
theorem back_some (nb : Nat) (N : Int) (L : List Pk) (A : Nat → Nat → Bool) (F : Nat → Prop) (i : Int) (p : Pk) (hp : at? L i = some p) (w : World) (h : NetR w nb N L A F) :
    Calls Try.prog 19 #[.pointer (some ⟨nb, 0, none⟩), .int .i64 i] w fun e w' => e = .returned (.bool true) ∧
      NetR w' nb N (L.eraseIdx i.toNat ++ [p]) A (fun k => F k ∨ w.heap.size ≤ k) ∧ Fr F w w' := by
  obtain ⟨i0, hi0, hz0, hz1, hz2⟩ := info_parts pkinfo
  obtain ⟨a, c, c1, hnb⟩ := h.row
  have hy := Lib.hid (at?_yes hp)
  obtain ⟨h0, hi, hp'⟩ := at?_some hp
  obtain ⟨k, rfl⟩ := Int.eq_ofNat_of_zero_le h0
  have HP := Lib.hid hp'
  clear hp hp'
  simp only [Int.toNat_natCast] at hi
  have hlr : (L.eraseIdx k).length < 256 := by have := h.room; rw [List.length_eraseIdx_of_lt hi]; omega
  simp only [Int.toNat_natCast]
  obtain ⟨f, t, bs⟩ := p
  obtain ⟨L', hL'⟩ : ∃ L', L' = L.eraseIdx k := ⟨_, rfl⟩
  rw [← hL'] at hlr ⊢
  have HL := Lib.hid hL'
  clear hL'
  go_enter Try.func19, Try.ntmps19
  go_wp2_with fail
  refine (there_any nb k a L.length c w c1).mono ?_
  rintro e w1 ⟨rfl, rfl⟩
  rw [hy.out]
  go_wp2_with fail
  refine (cut_any nb N L A F k ⟨f, t, bs⟩ HP.out w h).mono ?_
  rintro e w2 ⟨g, cap, rfl, ho3, hFg, hR3, hF3⟩
  rw [← HL.out] at hR3
  simp only at ho3
  have HR0 := Lib.hid (And.intro ho3 (And.intro hFg (And.intro hR3 hF3)))
  obtain ⟨w3, hw3⟩ : ∃ w3, w3 = w2.alloc (.cells #[.int .i64 f, .int .i64 t, .slice (some ⟨g, 0, none⟩) bs.length cap] 40) := ⟨_, rfl⟩
  have hF23 : Fr (fun _ => False) w2 w3 := by
    rw [hw3]
    exact (Fr.refl _ w2).alloc _
  have hB3 : Blk w3 w2.heap.size 40 #[.int .i64 f, .int .i64 t, .slice (some ⟨g, 0, none⟩) bs.length cap] := by
    rw [hw3]
    exact Blk.new w2 _ _
  have hw3' := Lib.hid hw3
  clear hw3 ho3 hFg hR3 hF3
  go_upto_region 4 with (fail)
  rw [← hw3'.out]
  clear hw3'
  obtain ⟨ho3, hFg, hR3, hF3⟩ := HR0.out
  have ho3' := own_fr ho3 hF23 (fun _ _ h => h)
  have hR3' := hR3.fr hF23 (fun _ _ h => h)
  obtain ⟨⟨cs, lv, vs, h1, h2, h3, h4, h5, h6⟩, ho, n1, n12, hr⟩ := hR3'
  have hlen : ∃ la lc, lv = .slice la L'.length lc := by
    rcases own_form h6.row with ⟨rfl, hL, _⟩ | ⟨g, cap, cur, rfl, _⟩
    · exact ⟨none, 0, by rw [hL]⟩
    · exact ⟨_, _, rfl⟩
  obtain ⟨la, lc, rfl⟩ := hlen
  have hrow := h6.row
  have j0 := h1.cell 1 h4
  have jf := h1.frozen 1
  have j1 := hB3.cell 0 rfl
  have j2 := hB3.cell 1 rfl
  have j3 := hB3.cell 2 rfl
  have hrb : ∀ k, (Value.slice la L'.length lc).ownBlock = some k → k ≠ nb ∧ k < w3.heap.size := fun k hk => ⟨own_blk_ne hrow h1 (by decide) k hk, own_lt hrow hk⟩
  have HB : Hid (∀ w', Fr (fun k => (Value.slice la L'.length lc).ownBlock = some k) w3 w' → Blk w' nb 65 cs) := Lib.hid fun w' hf => h1.fr hf (fun h => (hrb nb h).1 rfl)
  have HR := Lib.hid (And.intro h1 (And.intro h2 (And.intro h3 (And.intro h4 (And.intro h5 h6)))))
  have H4 := Lib.hid h4
  have hnb3 := h1.lt
  have hnw3 := hB3.lt
  clear h1 h2 h3 h4 h5 h6 ho3 hFg hR3 hF3
  go_region_law (first
      | (refine step_append_lies _ (by rfl) _ _ _ (by rfl) 0 40 i0 _ 3 40 Try.underlying61 hi0 hz0 hz1 hz2 rfl (by omega) _ _ _ (by rfl) (own_fr hrow (((Fr.refl (fun _ => False) w3).alloc _).drew) (fun _ _ h => h))
           ⟨w3.heap.size, 0, none⟩ 1 1 [.int .i64 f, .int .i64 t, .slice (some ⟨g, 0, none⟩) bs.length cap] (by rfl) (by rfl) (World.news_of_block (cs := #[.int .i64 f, .int .i64 t, .slice (some ⟨g, 0, none⟩) bs.length cap]) (t := 40) (fr := (0, 0)) (heap_alloc_new w3 _)) (by simp [Value.oneCell'])
           (by omega) (by simp only [maxLen]; omega) (by omega) (by omega) (w3.heap.size + 1) (by simp [World.drew]) ?_
         intro gg lc' w4 hown4 hgrow hat hlt
         have hf4 : Fr (fun k => (Value.slice la L'.length lc).ownBlock = some k) w3 w4 := Fr.grown (((Fr.refl (fun k => (Value.slice la L'.length lc).ownBlock = some k) w3).alloc _).drew) hgrow (fun k hk _ => hk)
         have q1 := (HB.out w4 hf4).cell 1 H4.out
         have q2 := (HB.out w4 hf4).frozen 1))
  all_goals
    go_wp2_with fail
    go_ret
    obtain ⟨h1, h2, h3, h4, h5, h6⟩ := HR.out
    obtain ⟨_, hFg, _, hF3⟩ := HR0.out
    have R := put_old (w3 := w3.drew) (f := f) (t := t) h1 h2 h3 h5 h6 ho n1 n12 hlr ho3' (fun h => h.2 rfl) (Fr.refl _ w3).drew hown4 hgrow hat
    have s1 := hF3.size
    have s2 := hF23.size
    exact ⟨rfl, R.1.up (by rintro x (h | rfl | h); exact .inl h.1; exact .inl hFg; right; omega), hF3.tr (hF23.none_up.tr (R.2.mono fun _ _ h => h.1))⟩
end Go.Proofs.Ytpffmfjphlaiaaa
