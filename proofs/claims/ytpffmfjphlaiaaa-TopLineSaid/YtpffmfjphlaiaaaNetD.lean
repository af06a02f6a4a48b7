/- Send. -/
import Derived.Test.YtpffmfjphlaiaaaNetC
import Derived.Deep.AppendLies
import Derived.Deep.RegionLaw
import Derived.Deep.RegionWith
namespace Go.Proofs.Ytpffmfjphlaiaaa
open Go.RowKit

def sendE (N : Int) (L : List Pk) (p : Pk) : Int := if inN N p.f && inN N p.t then (if 1200 < p.b.length then 3 else if 256 ≤ L.length then 5 else 0) else 2
def sendL (N : Int) (L : List Pk) (A : Nat → Nat → Bool) (p : Pk) : List Pk := if sendE N L p = 0 ∧ A p.f.toNat p.t.toNat = false then L ++ [p] else L
theorem pkinfo : (Try.prog.info? 40).map (fun i => (i.zero, i.size, i.bytes)) = some (some (.agg #[.int .i64 0, .int .i64 0, .slice none 0 0]), 3, 40) := by kernel_rfl

/-- What a packet put behind all leaves. -/
theorem put_fin {w2 w3 w4 : World} {nb : Nat} {N : Int} {L : List Pk} {A : Nat → Nat → Bool} {F : Nat → Prop} {cs : Array Value} {lv : Value} {vs : List Value} {o : Obj} {f t : Int} {bs : List UInt8} {g cap gg lc' : Nat}
    (hB : Blk w2 nb 65 cs) (hsz : cs.size = 146) (h0 : cs[0]? = some (.int .i64 N)) (h5 : ∀ a b, a < 12 → b < 12 → cs[2 + a * 12 + b]? = some (.bool (A a b))) (h6 : Packs w2 lv L vs F) (ho : F nb) (n1 : 1 ≤ N) (n12 : N ≤ 12)
    (hL : L.length < 256) (ho3 : w3.ownsRow 0 5 1 (.slice (some ⟨g, 0, none⟩) bs.length cap) bs.length (u8s bs)) (hg3 : w2.heap.size ≤ g) (hf3 : Fr (fun k => w2.heap.size ≤ k) w2 w3)
    (hown4 : w4.ownsRow 0 40 3 (.slice (some ⟨gg, 0, none⟩) (L.length + 1) lc') (L.length + 1) (flat L vs ++ [.int .i64 f, .int .i64 t, .slice (some ⟨g, 0, none⟩) bs.length cap]))
    (hgrow : (w3.alloc o).grownBy w4 lv.ownBlock) (hat : lv.ownBlock = some gg ∨ gg = w3.heap.size + 1) :
    NetR (w4.setCell ⟨nb, 1, none⟩ (.slice (some ⟨gg, 0, none⟩) (L.length + 1) lc')) nb N (L ++ [⟨f, t, bs⟩]) A (fun k => F k ∨ w2.heap.size ≤ k) ∧ Fr F w2 (w4.setCell ⟨nb, 1, none⟩ (.slice (some ⟨gg, 0, none⟩) (L.length + 1) lc')) := by
  have hlv : ∀ k, lv.ownBlock = some k → k ≠ nb ∧ k < w2.heap.size ∧ F k := fun k hk => ⟨own_blk_ne h6.row hB (by decide) k hk, own_lt h6.row hk, h6.rin k hk⟩
  have hf4 : Fr (fun k => lv.ownBlock = some k) w2 w4 := Fr.grown ((hf3.mono (Z := fun k => lv.ownBlock = some k) fun k hk h => by omega).alloc o) hgrow (fun k hk _ => hk)
  have hb4 : Blk w4 nb 65 cs := hB.fr hf4 (fun h => (hlv nb h).1 rfl)
  have hgl : g < w3.heap.size := own_lt ho3 rfl
  have hf34 : Fr (fun k => lv.ownBlock = some k) w3 w4 := Fr.grown ((Fr.refl _ w3).alloc o) hgrow (fun k hk _ => hk)
  have hf5 : Fr (fun k => k = nb) w4 (w4.setCell ⟨nb, 1, none⟩ (.slice (some ⟨gg, 0, none⟩) (L.length + 1) lc')) := Fr.set1 _ _ _ _
  have hnb : nb < w2.heap.size := hB.lt
  have hggne : gg ≠ nb := by
    rcases hat with h | h
    · exact (hlv gg h).1
    · have := hf3.size; omega
  refine ⟨⟨⟨_, .slice (some ⟨gg, 0, none⟩) (L.length + 1) lc', vs ++ [.slice (some ⟨g, 0, none⟩) bs.length cap], hb4.set_ 1 _, by simp [hsz], ?_, ?_, ?_, ?_⟩, .inl ho, n1, n12, by simp; omega⟩, ?_⟩
  · rw [Array.getElem?_setIfInBounds_ne (by omega)]; exact h0
  · rw [Array.getElem?_setIfInBounds_self_of_lt (by omega)]
  · intro a b ha hb
    rw [Array.getElem?_setIfInBounds_ne (by omega)]; exact h5 a b ha hb
  · refine ⟨by simp [h6.len], ?_, ?_, ?_, ?_⟩
    · rw [List.length_append, List.length_singleton, flat_append _ _ _ _ h6.len]
      exact own_fr hown4 hf5 (fun k hk => by simp only [Value.ownBlock] at hk; injection hk with hk; rw [← hk]; exact hggne)
    · intro k hk
      simp only [Value.ownBlock] at hk
      injection hk with hk
      subst hk
      rcases hat with h | h
      · exact .inl (hlv gg h).2.2
      · right; have := hf3.size; omega
    · intro i p v hp hv
      by_cases hi : i < L.length
      · rw [List.getElem?_append_left hi] at hp
        rw [List.getElem?_append_left (by rw [h6.len]; exact hi)] at hv
        obtain ⟨q1, k, hk, hF⟩ := h6.body i p v hp hv
        have e1 := own_own_ne q1 h6.row (by decide)
        exact ⟨own_fr (own_fr q1 hf4 (fun k hk h => e1 k k hk h rfl)) hf5 (own_blk_ne q1 hB (by decide)), k, hk, .inl hF⟩
      · have hi' : i = L.length := by
          have := (List.getElem?_eq_some_iff.1 hp).1
          simp at this; omega
        subst hi'
        rw [List.getElem?_append_right (Nat.le_refl _)] at hp
        rw [List.getElem?_append_right (by rw [h6.len]; exact Nat.le_refl _), h6.len] at hv
        simp at hp hv
        subst hp hv
        refine ⟨own_fr (own_fr ho3 hf34 (fun k hk h => ?_)) hf5 (fun k hk h => ?_), g, rfl, .inr hg3⟩
        · simp only [Value.ownBlock] at hk
          injection hk with hk
          have := (hlv k h).2.1
          omega
        · simp only [Value.ownBlock] at hk
          injection hk with hk
          omega
    · rw [List.map_append, List.nodup_append]
      refine ⟨h6.apart, by simp, ?_⟩
      intro x hx y hy hxy
      subst hxy
      simp only [List.mem_map] at hx
      obtain ⟨v, hv, rfl⟩ := hx
      simp only [List.map_cons, List.map_nil, List.mem_singleton] at hy
      obtain ⟨i, hi, rfl⟩ := List.getElem_of_mem hv
      have hiL : i < L.length := by rw [← h6.len]; exact hi
      obtain ⟨q1, k, hk, hF⟩ := h6.body i L[i] vs[i] (List.getElem?_eq_getElem hiL) (List.getElem?_eq_getElem hi)
      have := own_lt q1 hk
      rw [hk] at hy
      simp only [Value.ownBlock] at hy
      injection hy with hy
      omega
  · exact (hf4.mono (Z := F) fun k _ h => (hlv k h).2.2).trans hf5 (by rintro k _ (h | rfl); exact h; exact ho)

set_option maxRecDepth 100000 in
set_option maxHeartbeats 4000000 in
theorem send_put (nb : Nat) (N : Int) (L : List Pk) (A : Nat → Nat → Bool) (F : Nat → Prop) (p : Pk) (s : Value) (w : World) (h : NetR w nb N L A F) (hs : Byt w s p.b)
    (hf0 : 0 ≤ p.f) (hf1 : p.f < N) (ht0 : 0 ≤ p.t) (ht1 : p.t < N) (hb : p.b.length ≤ 1200) (hL : L.length < 256) (hA : A p.f.toNat p.t.toNat = false) :
    Calls Try.prog 32 #[.pointer (some ⟨nb, 0, none⟩), .agg #[.int .i64 p.f, .int .i64 p.t, s]] w fun e w' => e = .returned (.int .i64 0) ∧
      NetR w' nb N (L ++ [p]) A (fun k => F k ∨ w.heap.size ≤ k) ∧ Fr F w w' := by
  obtain ⟨i0, hi0, hz0, hz1, hz2⟩ := info_parts pkinfo
  obtain ⟨⟨cs, lv, vs, h1, h2, h3, h4, h5, h6⟩, ho, n1, n12, hr⟩ := h
  obtain ⟨f, t, bs⟩ := p
  simp only at hs hf0 hf1 ht0 ht1 hb hA
  obtain ⟨f, rfl⟩ := Int.eq_ofNat_of_zero_le hf0
  obtain ⟨t, rfl⟩ := Int.eq_ofNat_of_zero_le ht0
  simp only [Int.toNat_natCast] at hA
  have ef := Lib.hid (inN_yes hf0 hf1)
  have et := Lib.hid (inN_yes ht0 ht1)
  have c0 := h1.cell 0 h3
  have c1 := h1.cell 1 h4
  have ca := h1.cell _ (h5 f t (by omega) (by omega))
  have f1 := h1.frozen 1
  rw [hA] at ca
  have hA' : (f : Int) < 12 := by omega
  have hB' : (t : Int) < 12 := by omega
  have hnb := h1.lt
  have HR := Lib.hid (And.intro h1 (And.intro h5 h6))
  have hrow := h6.row
  have hs0 := hs
  obtain ⟨sa, sc, rfl, -, -⟩ := hs0
  have hlen : ∃ la lc, lv = .slice la L.length lc := by
    rcases own_form hrow with ⟨rfl, hL, _⟩ | ⟨g, cap, cur, rfl, _⟩
    · exact ⟨none, 0, by rw [hL]⟩
    · exact ⟨_, _, rfl⟩
  obtain ⟨la, lc, rfl⟩ := hlen
  have hsz := Lib.hid h2
  have h3' := Lib.hid h3
  clear h1 h5 h6 hA h2 h3
  go_enter Try.func32, Try.ntmps32
  go_wp2_with fail
  refine (is_any nb N f _ (al_cell c0 _)).mono ?_
  rintro e w1 ⟨rfl, rfl⟩
  rw [ef.out]
  go_wp2_with fail
  refine (is_any nb N t _ (al_cell c0 _)).mono ?_
  rintro e w1 ⟨rfl, rfl⟩
  rw [et.out]
  go_wp2_with fail
  go_quiet (fail)
  go_wp2_with fail
  obtain ⟨w2, hw2⟩ : ∃ w2, w2 = (w.alloc (.cells #[.int .i64 f, .int .i64 t, .slice sa bs.length sc] 40)).drewN nq := ⟨_, rfl⟩
  rw [← hw2]
  have hF2 : Fr (fun _ => False) w w2 := by rw [hw2]; exact ((Fr.refl _ w).alloc _).drewN _
  have hB2 : Blk w2 w.heap.size 40 #[.int .i64 f, .int .i64 t, .slice sa bs.length sc] := by rw [hw2]; exact (Blk.new _ _ _).drewN _
  have hz2' : w2.heap.size = w.heap.size + 1 := by rw [hw2]; simp [World.drewN]
  clear hw2 c0 c1 ca f1
  obtain ⟨h1, h5, h6⟩ := HR.out
  have hBn : Blk w2 nb 65 cs := h1.fr hF2 (fun h => h)
  have hrow2 := own_fr hrow hF2 (fun _ _ h => h)
  have hs2 : Byt w2 (.slice sa bs.length sc) bs := hs.fr hF2 (fun _ _ h => h)
  have hrb : ∀ k, (Value.slice la L.length lc).ownBlock = some k → k ≠ nb ∧ k < w.heap.size := fun k hk => ⟨own_blk_ne hrow h1 (by decide) k hk, own_lt hrow hk⟩
  have hS : ∀ w', Fr (fun k => (Value.slice la L.length lc).ownBlock = some k ∨ w2.heap.size ≤ k) w2 w' →
      (w'.cell? ⟨nb, 1, none⟩ = some (.slice la L.length lc) ∧ w'.cell? ⟨w.heap.size, 0, none⟩ = some (.int .i64 f) ∧ w'.cell? ⟨w.heap.size, 1, none⟩ = some (.int .i64 t) ∧ w'.cell? ⟨w.heap.size, 2, none⟩ = some (.slice sa bs.length sc)) := by
    intro w' hf
    have b1 := hBn.fr hf (by rintro (h | h); exact (hrb nb h).1 rfl; omega)
    have b2 := hB2.fr hf (by rintro (h | h); have := (hrb _ h).2; omega; omega)
    exact ⟨b1.cell 1 h4, b2.cell 0 rfl, b2.cell 1 rfl, b2.cell 2 rfl⟩
  have HB : Hid (∀ w', Fr (fun k => (Value.slice la L.length lc).ownBlock = some k ∨ w2.heap.size ≤ k) w2 w' → Blk w' nb 65 cs) := Lib.hid fun w' hf => hBn.fr hf (by rintro (h | h); exact (hrb nb h).1 rfl; omega)
  have HS := Lib.hid hS
  have hS2 := hS w2 (Fr.refl _ _)
  clear hS h5 h6 h1
  obtain ⟨j0, j1, j2, j3⟩ := hS2
  have hnb2 : nb < w2.heap.size := by omega
  go_region_law (first
      | (go_simp
         go_at_call 29
         refine (own_any f t _ bs _ hs2.drew (by omega) w2.heap.size (Nat.le_refl _)).mono ?_
         rintro e w3 ⟨g, cap, rfl, ho3, hg3, hf3⟩
         obtain ⟨k0, k1, k2, k3⟩ := HS.out w3 (hf3.of_drew.mono fun k _ h => .inr h)
         have hnb3 : nb < w3.heap.size := by have := hf3.size; simp at this; omega
         have hnw3 : w.heap.size < w3.heap.size := by have := hf3.size; simp at this; omega
         have hrow3 := own_fr hrow2 hf3.of_drew (fun k hk => by have := (hrb k hk).2; omega))
      | (refine step_append_lies _ (by rfl) _ _ _ (by rfl) 0 40 i0 _ 3 40 Try.underlying61 hi0 hz0 hz1 hz2 rfl (by omega) _ _ _ (by rfl) (hrow3.alloc _)
           ⟨w3.heap.size, 0, none⟩ 1 1 [.int .i64 f, .int .i64 t, .slice (some ⟨g, 0, none⟩) bs.length cap] (by rfl) (by rfl) (World.news_of_block (cs := #[.int .i64 f, .int .i64 t, .slice (some ⟨g, 0, none⟩) bs.length cap]) (t := 40) (fr := (0, 0)) (heap_alloc_new w3 _)) (by simp [Value.oneCell'])
           (by omega) (by simp only [maxLen]; omega) (by omega) (by omega) (w3.heap.size + 1) (by simp) ?_
         intro gg lc' w4 hown4 hgrow hat hlt
         have hf4 := Fr.grown ((hf3.of_drew.mono (Z := fun k => (Value.slice la L.length lc).ownBlock = some k ∨ w2.heap.size ≤ k) fun k _ h => .inr h).alloc _) hgrow (fun k hk _ => .inl hk)
         have q1 := (HS.out w4 hf4).1
         have q2 := (HB.out w4 hf4).frozen 1))
  all_goals
    go_wp2_with fail
    go_ret
    obtain ⟨h1, h5, h6⟩ := HR.out
    have R := put_fin (f := f) (t := t) hBn hsz.out h3'.out h5 (h6.fr hF2 (fun _ _ h => h)) ho n1 n12 hL ho3 hg3 hf3.of_drew hown4 hgrow hat
    exact ⟨rfl, R.1.up (fun k h => h.imp id (fun h => by omega)), hF2.none_up.tr R.2⟩

set_option maxRecDepth 100000 in
set_option maxHeartbeats 2000000 in
theorem send_not (nb : Nat) (N : Int) (L : List Pk) (A : Nat → Nat → Bool) (F : Nat → Prop) (p : Pk) (s : Value) (w : World) (h : NetR w nb N L A F) (hs : Byt w s p.b) (hbm : p.b.length ≤ 9223372036854775807)
    (hn : ¬ (sendE N L p = 0 ∧ A p.f.toNat p.t.toNat = false)) :
    Calls Try.prog 32 #[.pointer (some ⟨nb, 0, none⟩), .agg #[.int .i64 p.f, .int .i64 p.t, s]] w fun e w' => e = .returned (.int .i64 (sendE N L p)) ∧ Fr (fun _ => False) w w' := by
  obtain ⟨⟨cs, lv, vs, h1, h2, h3, h4, h5, h6⟩, ho, n1, n12, hr⟩ := h
  obtain ⟨f, t, bs⟩ := p
  simp only at hs hn hbm ⊢
  have c0 := h1.cell 0 h3
  have c1 := h1.cell 1 h4
  have hnb := h1.lt
  have hs0 := hs
  obtain ⟨sa, sc, rfl, -, -⟩ := hs0
  have hlen : ∃ la lc, lv = .slice la L.length lc := by
    rcases own_form h6.row with ⟨rfl, hL, _⟩ | ⟨g, cap, cur, rfl, _⟩
    · exact ⟨none, 0, by rw [hL]⟩
    · exact ⟨_, _, rfl⟩
  obtain ⟨la, lc, rfl⟩ := hlen
  have hfin : Fr (fun _ => False) w (w.alloc (.cells #[.int .i64 f, .int .i64 t, .slice sa bs.length sc] 40)) := (Fr.refl _ w).alloc _
  have HF := Lib.hid hfin
  clear h6 hfin
  by_cases hf : 0 ≤ f ∧ f < N
  · have ef := Lib.hid (inN_yes hf.1 hf.2)
    by_cases ht : 0 ≤ t ∧ t < N
    · have et := Lib.hid (inN_yes ht.1 ht.2)
      have e0 : sendE N L ⟨f, t, bs⟩ = if 1200 < bs.length then 3 else if 256 ≤ L.length then 5 else 0 := by unfold sendE; rw [ef.out, et.out]; rfl
      rw [e0] at hn ⊢
      by_cases hb : 1200 < bs.length
      · rw [if_pos hb]
        clear hn e0 h5 h2 h3
        go_enter Try.func32, Try.ntmps32
        go_wp2_with fail
        refine (is_any nb N f _ (al_cell c0 _)).mono ?_
        rintro e w1 ⟨rfl, rfl⟩
        rw [ef.out]
        go_wp2_with fail
        refine (is_any nb N t _ (al_cell c0 _)).mono ?_
        rintro e w1 ⟨rfl, rfl⟩
        rw [et.out]
        go_wp2_with fail
        go_ret
        exact ⟨rfl, HF.out⟩
      rw [if_neg hb] at hn ⊢
      by_cases hL : 256 ≤ L.length
      · rw [if_pos hL]
        clear hn e0 h5 h2 h3
        go_enter Try.func32, Try.ntmps32
        go_wp2_with fail
        refine (is_any nb N f _ (al_cell c0 _)).mono ?_
        rintro e w1 ⟨rfl, rfl⟩
        rw [ef.out]
        go_wp2_with fail
        refine (is_any nb N t _ (al_cell c0 _)).mono ?_
        rintro e w1 ⟨rfl, rfl⟩
        rw [et.out]
        go_wp2_with fail
        go_ret
        exact ⟨rfl, HF.out⟩
      · rw [if_neg hL] at hn ⊢
        have hA : A f.toNat t.toNat = true := by simpa using hn
        obtain ⟨hf0, hf1⟩ := hf
        obtain ⟨ht0, ht1⟩ := ht
        obtain ⟨f, rfl⟩ := Int.eq_ofNat_of_zero_le hf0
        obtain ⟨t, rfl⟩ := Int.eq_ofNat_of_zero_le ht0
        simp only [Int.toNat_natCast] at hA
        have ca := h1.cell _ (h5 f t (by omega) (by omega))
        rw [hA] at ca
        have hA' : (f : Int) < 12 := by omega
        have hB' : (t : Int) < 12 := by omega
        clear hn e0 h5 h2 h3 hA
        go_enter Try.func32, Try.ntmps32
        go_wp2_with fail
        refine (is_any nb N f _ (al_cell c0 _)).mono ?_
        rintro e w1 ⟨rfl, rfl⟩
        rw [ef.out]
        go_wp2_with fail
        refine (is_any nb N t _ (al_cell c0 _)).mono ?_
        rintro e w1 ⟨rfl, rfl⟩
        rw [et.out]
        go_wp2_with fail
        go_quiet (fail)
        go_wp2_with fail
        go_ret
        exact ⟨rfl, HF.out.drewN _⟩
    · have et := Lib.hid (inN_no ht)
      have e0 : sendE N L ⟨f, t, bs⟩ = 2 := by unfold sendE; rw [ef.out, et.out]; rfl
      rw [e0]
      clear hn e0 h5 h2 h3 hf ht
      go_enter Try.func32, Try.ntmps32
      go_wp2_with fail
      refine (is_any nb N f _ (al_cell c0 _)).mono ?_
      rintro e w1 ⟨rfl, rfl⟩
      rw [ef.out]
      go_wp2_with fail
      refine (is_any nb N t _ (al_cell c0 _)).mono ?_
      rintro e w1 ⟨rfl, rfl⟩
      rw [et.out]
      go_wp2_with fail
      go_ret
      exact ⟨rfl, HF.out⟩
  · have ef := Lib.hid (inN_no hf)
    have e0 : sendE N L ⟨f, t, bs⟩ = 2 := by unfold sendE; rw [ef.out]; rfl
    rw [e0]
    clear hn e0 h5 h2 h3 hf
    go_enter Try.func32, Try.ntmps32
    go_wp2_with fail
    refine (is_any nb N f _ (al_cell c0 _)).mono ?_
    rintro e w1 ⟨rfl, rfl⟩
    rw [ef.out]
    go_wp2_with fail
    go_ret
    exact ⟨rfl, HF.out⟩

/-- Send: what it answers, and what is under way behind it. -/
theorem send_any (nb : Nat) (N : Int) (L : List Pk) (A : Nat → Nat → Bool) (F : Nat → Prop) (p : Pk) (s : Value) (w : World) (h : NetR w nb N L A F) (hs : Byt w s p.b) (hbm : p.b.length ≤ 9223372036854775807) :
    Calls Try.prog 32 #[.pointer (some ⟨nb, 0, none⟩), .agg #[.int .i64 p.f, .int .i64 p.t, s]] w fun e w' => e = .returned (.int .i64 (sendE N L p)) ∧
      NetR w' nb N (sendL N L A p) A (fun k => F k ∨ w.heap.size ≤ k) ∧ Fr F w w' := by
  by_cases hy : sendE N L p = 0 ∧ A p.f.toNat p.t.toNat = false
  · have e1 : sendL N L A p = L ++ [p] := by unfold sendL; rw [if_pos hy]
    rw [e1, hy.1]
    have hy' := hy
    obtain ⟨hy1, hy2⟩ := hy'
    unfold sendE at hy1
    by_cases hin : (inN N p.f && inN N p.t) = true
    · rw [if_pos hin] at hy1
      simp only [inN, Bool.and_eq_true, decide_eq_true_eq] at hin
      by_cases hb : 1200 < p.b.length
      · rw [if_pos hb] at hy1; omega
      · rw [if_neg hb] at hy1
        by_cases hL : 256 ≤ L.length
        · rw [if_pos hL] at hy1; omega
        · exact send_put nb N L A F p s w h hs hin.1.1 hin.1.2 hin.2.1 hin.2.2 (by omega) (by omega) hy2
    · rw [if_neg hin] at hy1; omega
  · have e1 : sendL N L A p = L := by unfold sendL; rw [if_neg hy]
    rw [e1]
    exact (send_not nb N L A F p s w h hs hbm hy).mono fun e w' ⟨he, hf⟩ => ⟨he, (h.fr hf (fun _ _ h => h)).up (fun _ h => .inl h), hf.none_up⟩
end Go.Proofs.Ytpffmfjphlaiaaa
