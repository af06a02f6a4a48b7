/- The walk of NetFull. -/
import Derived.Test.YtemjgllijlaejaaNetI
import Derived.Test.YtemjgllijlaejaaOpen
import Derived.Deep.LoopGhost
namespace Go.Proofs.Ytemjgllijlaejaa
open Go.RowKit


/-- The net, and the law's own packet. -/
structure Fl (w w' : World) (nb pb : Nat) (N : Int) (f t : Int) (s : Value) (L : List Pk) (F : Nat → Prop) : Prop where
  st : St w.heap.size w' nb N L (fun _ _ => false) F
  nf : ¬ F pb
  blk : Blk w' pb 29 #[.int .i64 f, .int .i64 t, s]
  fr : Fr (fun _ => False) w w'
theorem Fl.mv {w w' w'' : World} {nb pb : Nat} {N f t : Int} {s : Value} {L L' : List Pk} {F G : Nat → Prop} (h : Fl w w' nb pb N f t s L F) (hS : St w.heap.size w'' nb N L' (fun _ _ => false) G) (m : Mv F w' G w'') : Fl w w'' nb pb N f t s L' G :=
  ⟨hS, fun hg => by
    rcases m.new _ hg with h1 | h1
    · exact h.nf h1
    · have := h.blk.lt; omega, h.blk.fr m.fr h.nf, mv_f h.fr h.st.lo m⟩

theorem sendE_0 {N : Int} {L : List Pk} {p : Pk} (h1 : inN N p.f = true) (h2 : inN N p.t = true) (hb : p.b.length ≤ 1200) (hL : L.length < 256) : sendE N L p = 0 := by
  unfold sendE
  rw [h1, h2, if_neg (by omega : ¬ 1200 < p.b.length), if_neg (by omega : ¬ 256 ≤ L.length)]
  rfl
theorem sendE_5 {N : Int} {L : List Pk} {p : Pk} (h1 : inN N p.f = true) (h2 : inN N p.t = true) (hb : p.b.length ≤ 1200) (hL : 256 ≤ L.length) : sendE N L p = 5 := by
  unfold sendE
  rw [h1, h2, if_neg (by omega : ¬ 1200 < p.b.length), if_pos hL]
  rfl
theorem sendL_5 {N : Int} {L : List Pk} {p : Pk} {A : Nat → Nat → Bool} (h : sendE N L p = 5) : sendL N L A p = L := by
  unfold sendL
  rw [h, if_neg (by omega)]
theorem sendL_0 {N : Int} {L : List Pk} {p : Pk} (h : sendE N L p = 0) : sendL N L (fun _ _ => false) p = L ++ [p] := by
  unfold sendL
  rw [h, if_pos ⟨rfl, rfl⟩]

theorem at_ok (more : Int) : 0 ≤ wrap64 ((IntKind.u64.wrap more).tmod 256) ∧ wrap64 ((IntKind.u64.wrap more).tmod 256) < 256 := by
  have h0 : 0 ≤ IntKind.u64.wrap more := by
    simp [IntKind.wrap, IntKind.signed, IntKind.bits]
    omega
  rw [Int.tmod_eq_emod_of_nonneg h0]
  generalize IntKind.u64.wrap more = x at h0
  have h1 : 0 ≤ x % 256 := by omega
  have h2 : x % 256 < 256 := by omega
  rw [show wrap64 (x % 256) = x % 256 by unfold wrap64; omega]
  exact ⟨h1, h2⟩
theorem at?_rep {q : Pk} {n : Nat} {z : Int} (h0 : 0 ≤ z) (h1 : z < n) : at? (List.replicate n q) z = some q := by
  unfold at?
  rw [if_pos h0, List.getElem?_replicate, if_pos (by omega)]

set_option maxRecDepth 100000 in
set_option maxHeartbeats 4000000 in
theorem full_any (p : Pk) (s : Value) (more : Int) (w : World) (hs : Byt w s p.b) (hbm : p.b.length ≤ 9223372036854775807) :
    Calls Try.prog 5 #[.agg #[.int .i64 p.f, .int .i64 p.t, s], .int .i64 more] w fun e w' => e = .returned (.bool true) ∧ Below w.heap.size w w' := by
  obtain ⟨f, t, bs⟩ := p
  simp only at hs hbm ⊢
  have hs0 := hs
  obtain ⟨sa, sc, rfl, -, -⟩ := hs0
  obtain ⟨w1, hw1⟩ : ∃ w1, w1 = w.alloc (.cells #[.int .i64 f, .int .i64 t, .slice sa bs.length sc] 29) := ⟨_, rfl⟩
  have hf1 : Fr (fun _ => False) w w1 := by rw [hw1]; exact (Fr.refl _ w).alloc _
  have hb1 : Blk w1 w.heap.size 29 #[.int .i64 f, .int .i64 t, .slice sa bs.length sc] := by rw [hw1]; exact Blk.new _ _ _
  have hl1 : w.heap.size < w1.heap.size := hb1.lt
  have hw1' := Lib.hid hw1
  clear hw1
  by_cases hb : 100 < bs.length
  · go_enter Try.func5, Try.ntmps5
    go_upto_region 1 with (fail)
    rw [← hw1'.out]
    clear hw1'
    go_wp2_with fail
    refine (new_st 2 w1 (by omega) (by omega) w.heap.size hf1.size).mono ?_
    rintro e w2 ⟨nb, F, rfl, hS, hn, hf2⟩
    have hf := hf1.tr hf2
    have hb2 := (hb1.fr hf2 (fun h => h)).cell 2 rfl
    have hb' : ¬ (bs.length : Int) ≤ 100 := by omega
    have hb'' : (100 : Int) < (bs.length : Int) := by omega
    clear hS hb1 hf2
    go_wp2_with fail
    refine (known_any w2).mono ?_
    rintro e w3 ⟨rfl, hf3⟩
    go_wp2_with fail
    go_ret
    exact ⟨rfl, ((hf.tr hf3).none_up).below (Nat.le_refl _)⟩
  · go_enter Try.func5, Try.ntmps5
    go_upto_region 1 with (fail)
    rw [← hw1'.out]
    clear hw1'
    go_wp2_with fail
    refine (new_st 2 w1 (by omega) (by omega) w.heap.size hf1.size).mono ?_
    rintro e w2 ⟨nb, F, rfl, hS, hn, hf2⟩
    have hb2' := hb1.fr hf2 (fun h => h)
    have hb2 := hb2'.cell 2 rfl
    have hb3 := hb2'.cell 0 rfl
    have hb4 := hb2'.cell 1 rfl
    have hb5 := hb2'.frozen
    have hb'' : ¬ (100 : Int) < (bs.length : Int) := by omega
    have hF : Fl w ((w2.setCell ⟨w.heap.size, 0, none⟩ (.int .i64 1)).setCell ⟨w.heap.size, 1, none⟩ (.int .i64 0)) nb w.heap.size 2 1 0 (.slice sa bs.length sc) [] F := by
      have hX : Fr (fun k => k = w.heap.size) w2 ((w2.setCell ⟨w.heap.size, 0, none⟩ (.int .i64 1)).setCell ⟨w.heap.size, 1, none⟩ (.int .i64 0)) := (Fr.set1 _ _ _ _).setCell (p := ⟨w.heap.size, 1, none⟩) (fun _ => rfl) _
      have hnf : ¬ F w.heap.size := fun h => by have := hn _ h; omega
      refine ⟨hS.fr hX (fun k hk h => by subst h; exact hnf hk), hnf, ?_, (hf1.tr hf2).trans hX (fun k hk h => by rcases h with h | h; exact h; omega)⟩
      simpa using (hb2'.set_ 0 (.int .i64 1)).set_ 1 (.int .i64 0)
    have HF := Lib.hid hF
    clear hS hb1 hb2' hf2 hf1 hF
    go_wp2_with fail
    obtain ⟨w3, hw3⟩ : ∃ w3, w3 = (w2.setCell ⟨w.heap.size, 0, none⟩ (.int .i64 1)).setCell ⟨w.heap.size, 1, none⟩ (.int .i64 0) := ⟨_, rfl⟩
    have hF := HF.out
    rw [← hw3] at hF ⊢
    clear hw3 hb2 hb3 hb4 hb5 HF
    obtain ⟨pb, hpb⟩ : ∃ pb, pb = w.heap.size := ⟨_, rfl⟩
    rw [← hpb] at hF ⊢
    have hpl : w.heap.size ≤ pb := by omega
    clear hpb
    go_loopg [7] 256 (fun g i wr => ∃ (k : Nat) (G : Nat → Prop), k + g = 256 ∧ i = .int .i64 k ∧ Fl w wr nb pb 2 1 0 (.slice sa bs.length sc) (List.replicate k ⟨1, 0, bs⟩) G)
    case atStart => exact ⟨0, F, by omega, rfl, hF⟩
    case round =>
      clear hF hn F
      obtain ⟨k, F, hk, rfl, hF⟩ := hrel
      have HK := Lib.hid hk
      have hk' : k ≤ 256 := by omega
      clear hk
      have b0 := hF.blk.cell 0 rfl
      have b1 := hF.blk.cell 1 rfl
      have b2 := hF.blk.cell 2 rfl
      have HF := Lib.hid hF
      have hs1 := hs.fr hF.fr (fun _ _ h => h)
      clear hF
      by_cases hlt : k < 256
      · have hlt' : (k : Int) < 256 := by omega
        go_wp2_with fail
        refine (send_st w.heap.size nb 2 _ _ F _ HF.out.st HF.out.fr.size ⟨1, 0, bs⟩ _ hs1 (by omega)).mono ?_
        rintro e w4 ⟨rfl, G, hS, hM⟩
        have e0 : sendE 2 (List.replicate k (⟨1, 0, bs⟩ : Pk)) ⟨1, 0, bs⟩ = 0 := sendE_0 (by rfl) (by rfl) (by show bs.length ≤ 1200; omega) (by simpa using hlt)
        rw [e0]
        rw [sendL_0 e0, ← List.replicate_succ'] at hS
        have hF := HF.out.mv hS hM
        clear e0 hS hM
        go_wp2_with fail
        go_roundg (256 - (k + 1))
        case measure => have := HK.out; omega
        case rel => exact ⟨k + 1, G, by omega, by go_num, hF⟩
      · obtain rfl : k = 256 := by omega
        have e0 : sendE 2 (List.replicate 256 (⟨1, 0, bs⟩ : Pk)) ⟨1, 0, bs⟩ = 5 := sendE_5 (by rfl) (by rfl) (by show bs.length ≤ 1200; omega) (by simp)
        go_wp2_with fail
        refine (send_st w.heap.size nb 2 _ _ F _ HF.out.st HF.out.fr.size ⟨1, 0, bs⟩ _ hs1 (by omega)).mono ?_
        rintro e w4 ⟨rfl, G, hS, hM⟩
        rw [sendL_5 e0] at hS
        rw [e0]
        have hF := Lib.hid (HF.out.mv hS hM)
        clear e0 hS hM b0 b1 b2 HF
        go_wp2_with fail
        refine (twice_full nb 2 _ _ G 0 (by simp) w4 hF.out.st.r).mono ?_
        rintro e w5 ⟨rfl, rfl⟩
        go_wp2_with fail
        refine (len_any nb 2 _ _ G w5 hF.out.st.r).mono ?_
        rintro e w6 ⟨rfl, rfl⟩
        rw [show (((List.replicate 256 (⟨1, 0, bs⟩ : Pk)).length : Nat) : Int) = 256 by simp]
        go_wp2_with fail
        obtain ⟨z, hz⟩ : ∃ z, z = wrap64 ((IntKind.u64.wrap more).tmod 256) := ⟨_, rfl⟩
        obtain ⟨z0, z1⟩ := at_ok more
        rw [← hz] at z0 z1 ⊢
        clear hz
        refine (drop_st_some w.heap.size nb 2 _ _ G w5 hF.out.st hF.out.fr.size z ⟨1, 0, bs⟩ (at?_rep z0 z1)).mono ?_
        rintro e w6 ⟨rfl, G2, hS, hM⟩
        rw [List.eraseIdx_replicate, if_pos (by omega)] at hS
        have hF2 := Lib.hid (hF.out.mv hS hM)
        clear hF hS hM
        go_wp2_with fail
        refine (twice_st_some w.heap.size nb 2 _ _ G2 w6 hF2.out.st hF2.out.fr.size 0 ⟨1, 0, bs⟩ (at?_rep (by omega) (by decide)) (by show bs.length ≤ 1000000; omega) (by simp)).mono ?_
        rintro e w7 ⟨rfl, G3, hS, hM⟩
        have hF3 := hF2.out.mv hS hM
        have b0 := hF3.blk.cell 0 rfl
        have b1 := hF3.blk.cell 1 rfl
        have b2 := hF3.blk.cell 2 rfl
        have HF := Lib.hid hF3
        have hs3 := hs.fr hF3.fr (fun _ _ h => h)
        clear hF2 hF3 hS hM
        go_wp2_with fail
        refine (send_st w.heap.size nb 2 _ _ G3 _ HF.out.st HF.out.fr.size ⟨1, 0, bs⟩ _ hs3 (by omega)).mono ?_
        rintro e w8 ⟨rfl, G4, hS, hM⟩
        have e0 : sendE 2 (List.replicate (256 - 1) (⟨1, 0, bs⟩ : Pk) ++ [⟨1, 0, bs⟩]) ⟨1, 0, bs⟩ = 5 := sendE_5 (by rfl) (by rfl) (by show bs.length ≤ 1200; omega) (by simp)
        rw [e0]
        have hf8 := (HF.out.mv hS hM).fr
        clear e0 hS hM HF
        go_wp2_with fail
        refine (known_any w8).mono ?_
        rintro e w9 ⟨rfl, hf9⟩
        go_wp2_with fail
        go_ret
        exact ⟨rfl, ((hf8.tr hf9).none_up).below (Nat.le_refl _)⟩
end Go.Proofs.Ytemjgllijlaejaa
