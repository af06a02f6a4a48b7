/- Look, Twice; a Net that is not there. -/
import Derived.Test.YtpffmfjphlaiaaaNetF
namespace Go.Proofs.Ytpffmfjphlaiaaa
open Go.RowKit

/-- The cells of a packet under way, and its body. -/
theorem NetR.pk {w : World} {nb : Nat} {N : Int} {L : List Pk} {A : Nat → Nat → Bool} {F : Nat → Prop} (h : NetR w nb N L A F) {k : Nat} {p : Pk} (hp : L[k]? = some p) :
    ∃ g lc b bc, w.cell? ⟨nb, 1, none⟩ = some (.slice (some ⟨g, 0, none⟩) L.length lc) ∧ L.length ≤ lc ∧ w.cell? ⟨g, k * 3, none⟩ = some (.int .i64 p.f) ∧ w.cell? ⟨g, k * 3 + 1, none⟩ = some (.int .i64 p.t) ∧
      w.cell? ⟨g, k * 3 + 2, none⟩ = some (.slice (some ⟨b, 0, none⟩) p.b.length bc) ∧ w.ownsRow 0 5 1 (.slice (some ⟨b, 0, none⟩) p.b.length bc) p.b.length (u8s p.b) ∧ g ≠ nb ∧ nb < w.heap.size ∧ g < w.heap.size ∧ F b ∧ F g := by
  obtain ⟨⟨cs, lv, vs, h1, h2, h3, h4, h5, h6⟩, ho, -, -, -⟩ := h
  have hk := (List.getElem?_eq_some_iff.1 hp).1
  have hkv : k < vs.length := by rw [h6.len]; exact hk
  obtain ⟨hb1, b, hb2, hb3⟩ := h6.body k p vs[k] hp (List.getElem?_eq_getElem hkv)
  obtain ⟨e1, e2, e3⟩ := flat_get L vs k p vs[k] hp (List.getElem?_eq_getElem hkv)
  rcases own_form h6.row with ⟨rfl, hL, _⟩ | ⟨g, cap, cur, rfl, hcap, _⟩
  · omega
  · rcases own_form hb1 with ⟨hv, _, _⟩ | ⟨b', bc, cur', hv, _⟩
    · rw [hv] at hb2; cases hb2
    · rw [hv] at hb1 hb2 e3
      simp only [Value.ownBlock] at hb2
      injection hb2 with hb2
      subst hb2
      exact ⟨g, cap, b', bc, h1.cell 1 h4, by omega, own_cell h6.row _ e1, own_cell h6.row _ e2, own_cell h6.row _ e3, hb1, own_blk_ne h6.row h1 (by decide) g rfl, h1.lt, own_lt h6.row rfl, hb3, h6.rin g rfl⟩

theorem twice_none (nb : Nat) (N : Int) (L : List Pk) (A : Nat → Nat → Bool) (F : Nat → Prop) (i : Int) (hp : at? L i = none) (w : World) (h : NetR w nb N L A F) :
    Calls Try.prog 18 #[.pointer (some ⟨nb, 0, none⟩), .int .i64 i] w fun e w' => e = .returned (.bool false) ∧ w' = w := by
  obtain ⟨a, c, c1, hnb⟩ := h.row
  have hy := Lib.hid (at?_no hp)
  clear hp
  go_enter Try.func18, Try.ntmps18
  go_wp2_with fail
  refine (there_any nb i a L.length c w c1).mono ?_
  rintro e w1 ⟨rfl, rfl⟩
  rw [hy.out]
  go_wp2_with fail
  go_ret
  exact ⟨rfl, rfl⟩

theorem twice_full (nb : Nat) (N : Int) (L : List Pk) (A : Nat → Nat → Bool) (F : Nat → Prop) (i : Int) (hL : 256 ≤ L.length) (w : World) (h : NetR w nb N L A F) :
    Calls Try.prog 18 #[.pointer (some ⟨nb, 0, none⟩), .int .i64 i] w fun e w' => e = .returned (.bool false) ∧ w' = w := by
  cases hp : at? L i with
  | none => exact twice_none nb N L A F i hp w h
  | some p =>
    obtain ⟨a, c, c1, hnb⟩ := h.row
    have hy := Lib.hid (at?_yes hp)
    have hL' : (256 : Int) ≤ (L.length : Int) := by omega
    clear hp
    go_enter Try.func18, Try.ntmps18
    go_wp2_with fail
    refine (there_any nb i a L.length c w c1).mono ?_
    rintro e w1 ⟨rfl, rfl⟩
    rw [hy.out]
    go_wp2_with fail
    go_ret
    exact ⟨rfl, rfl⟩

set_option maxRecDepth 100000 in
set_option maxHeartbeats 4000000 in
theorem twice_some (nb : Nat) (N : Int) (L : List Pk) (A : Nat → Nat → Bool) (F : Nat → Prop) (i : Int) (p : Pk) (hp : at? L i = some p) (hb : p.b.length ≤ 1000000) (hL : L.length < 256) (w : World) (h : NetR w nb N L A F) :
    Calls Try.prog 18 #[.pointer (some ⟨nb, 0, none⟩), .int .i64 i] w fun e w' => e = .returned (.bool true) ∧
      NetR w' nb N (L ++ [p]) A (fun k => F k ∨ w.heap.size ≤ k) ∧ Fr F w w' := by
  obtain ⟨i0, hi0, hz0, hz1, hz2⟩ := info_parts pkinfo
  have hy := Lib.hid (at?_yes hp)
  obtain ⟨h0, hi, hp'⟩ := at?_some hp
  obtain ⟨k, rfl⟩ := Int.eq_ofNat_of_zero_le h0
  simp only [Int.toNat_natCast] at hp' hi
  obtain ⟨f, t, bs⟩ := p
  obtain ⟨gr, lc, b, bc, c1, hlc, d0, d1, d2, hbo, hgn, hnb, hgr, -⟩ := h.pk hp'
  simp only at d0 d1 d2 hbo hb
  obtain ⟨⟨cs, lv, vs, h1, h2, h3, h4, h5, h6⟩, ho, n1, n12, hr⟩ := h
  have hlv : lv = .slice (some ⟨gr, 0, none⟩) L.length lc := by
    have := h1.cell 1 h4
    rw [c1] at this
    injection this with this
    exact this.symm
  subst hlv
  have hi' : (k : Int) < (L.length : Int) := by omega
  have hL' : ¬ (256 : Int) ≤ (L.length : Int) := by omega
  have hrow := h6.row
  have f1 := h1.frozen 1
  have hne : gr ≠ nb := own_blk_ne hrow h1 (by decide) gr rfl
  have HB : Hid (∀ w', Fr (fun k => k = gr ∨ w.heap.size ≤ k) w w' → Blk w' nb 65 cs) := Lib.hid fun w' hf => h1.fr hf (by rintro (h | h); exact hne h.symm; omega)
  have H4 := Lib.hid h4
  have HR := Lib.hid (And.intro h1 (And.intro h2 (And.intro h3 (And.intro h5 h6))))
  clear h1 h2 h3 h4 h5 h6 hp hp'
  go_enter Try.func18, Try.ntmps18
  go_wp2_with fail
  refine (there_any nb k (some ⟨gr, 0, none⟩) L.length lc w c1).mono ?_
  rintro e w1 ⟨rfl, rfl⟩
  rw [hy.out]
  go_upto_region 3 with (fail)
  go_region_law (first
      | (go_simp
         go_at_call 29
         refine (own_any f t _ bs _ (Byt.of_own hbo).drew (by omega) w.heap.size (Nat.le_refl _)).mono ?_
         rintro e w3 ⟨g, cap, rfl, ho3, hg3, hf3⟩
         have k0 := (HB.out w3 (hf3.of_drew.mono fun k _ h => .inr h)).cell 1 H4.out
         have hnb3 : nb < w3.heap.size := by have := hf3.size; simp at this; omega
         have hrow3 := own_fr hrow hf3.of_drew (fun k hk => by simp only [Value.ownBlock] at hk; injection hk with hk; omega))
      | (refine step_append_lies _ (by rfl) _ _ _ (by rfl) 0 40 i0 _ 3 40 Try.underlying61 hi0 hz0 hz1 hz2 rfl (by omega) _ _ _ (by rfl) (hrow3.alloc _)
           ⟨w3.heap.size, 0, none⟩ 1 1 [.int .i64 f, .int .i64 t, .slice (some ⟨g, 0, none⟩) bs.length cap] (by rfl) (by rfl) (World.news_of_block (cs := #[.int .i64 f, .int .i64 t, .slice (some ⟨g, 0, none⟩) bs.length cap]) (t := 40) (fr := (0, 0)) (heap_alloc_new w3 _)) (by simp [Value.oneCell'])
           (by omega) (by simp only [maxLen]; omega) (by omega) (by omega) (w3.heap.size + 1) (by simp) ?_
         intro gg lc' w4 hown4 hgrow hat hlt
         have hf4 := Fr.grown ((hf3.of_drew.mono (Z := fun k => k = gr ∨ w.heap.size ≤ k) fun k _ h => .inr h).alloc _) hgrow (fun k hk _ => by simp only [Value.ownBlock] at hk; injection hk with hk; exact .inl hk.symm)
         have q1 := (HB.out w4 hf4).cell 1 H4.out
         have q2 := (HB.out w4 hf4).frozen 1))
  all_goals
    go_wp2_with fail
    go_ret
    obtain ⟨h1, h2, h3, h5, h6⟩ := HR.out
    have R := put_fin (f := f) (t := t) h1 h2 h3 h5 h6 ho n1 n12 hL ho3 hg3 hf3.of_drew hown4 hgrow hat
    exact ⟨rfl, R.1, R.2⟩
end Go.Proofs.Ytpffmfjphlaiaaa
