/- The walk of the document's Propose. -/
import Derived.Test.YtliljjlegofmkaaPRi
import Derived.Deep.RegionHeld3
import Derived.Deep.AppendLies
namespace Go.Proofs.Ytliljjlegofmkaa
open Go.RowKit

theorem row4 {w : World} {b : Nat} {T : TypeId} {a0 a1 a2 a3 : Value} (hB : Blk w b T #[a0, a1, a2, a3]) (x0 x1 x2 x3 : Value) :
    Blk ((((w.setCell ⟨b, 0, none⟩ x0).setCell ⟨b, 1, none⟩ x1).setCell ⟨b, 2, none⟩ x2).setCell ⟨b, 3, none⟩ x3) b T #[x0, x1, x2, x3] ∧
    Fr (fun k => k = b) w ((((w.setCell ⟨b, 0, none⟩ x0).setCell ⟨b, 1, none⟩ x1).setCell ⟨b, 2, none⟩ x2).setCell ⟨b, 3, none⟩ x3) :=
  ⟨by simpa using (((hB.set_ 0 x0).set_ 1 x1).set_ 2 x2).set_ 3 x3,
    (((Fr.set1 w b 0 _).setCell (p := ⟨b, 1, none⟩) (fun _ => rfl) _).setCell (p := ⟨b, 2, none⟩) (fun _ => rfl) _).setCell (p := ⟨b, 3, none⟩) (fun _ => rfl) _⟩

set_option maxRecDepth 100000 in
set_option maxHeartbeats 16000000 in
theorem rpro_any (r : Nat) (st : Rs) (F : Nat → Prop) (k : Nat) (hk64 : k < 18446744073709551616) (s : Value) (own : List UInt8) (w : World) (h : RR w r st F) (hF : ∀ j, F j → j < w.heap.size) (hby : Byt w s own) (hol : own.length ≤ 1000000) (hSl : st.S.length ≤ 1000000) :
    Calls Try.prog 49 #[.pointer (some ⟨r, 0, none⟩), .int .u64 k, s] w (RPro r st F k own w) := by
  obtain ⟨i0, hi0, hz0, hz1, hz2⟩ := info_parts vtinfo
  have hwf := h.wf
  have HFin := Lib.hid (fun w' (hf : Fr (fun _ => False) w w') => rfind_any r st F k w' (h.none_ hf))
  have HRdy := Lib.hid (fun w' (hf : Fr (fun _ => False) w w') => rready_any r st F w' (h.none_ hf))
  have HMus := Lib.hid (fun w' (hf : Fr (fun _ => False) w w') => rmust_any r st F k w' (h.none_ hf))
  have HR := Lib.hid h
  have HW := Lib.hid hwf
  have HBy := Lib.hid hby
  have HFF := Lib.hid hF
  obtain ⟨A, sc, rfl, -, -⟩ := hby
  have c7 : w.cell? ⟨r, 7, none⟩ = some (.int .u64 st.f) := by
    obtain ⟨sv, lv, sl, ml, tv, svs, h⟩ := h
    exact h.blk.cell 7 rfl
  obtain ⟨w1, hw1⟩ : ∃ w1, w1 = w.alloc (.cells #[.int .u64 0, .int .u64 0, .int .i64 0, .slice none 0 0] 45) := ⟨_, rfl⟩
  have hf1 : Fr (fun _ => False) w w1 := by rw [hw1]; exact (Fr.refl _ w).alloc _
  have hB1 : Blk w1 w.heap.size 45 #[.int .u64 0, .int .u64 0, .int .i64 0, .slice none 0 0] := by rw [hw1]; exact Blk.new _ _ _
  have HW1 := Lib.hid hw1
  have hw1s : w1.heap.size = w.heap.size + 1 := by rw [hw1]; simp
  have HF1 := Lib.hid hf1
  clear hw1 h hwf hF
  go_enter Try.func49, Try.ntmps49
  go_upto_region 1 with (fail)
  rw [← HW1.out]
  clear HW1
  go_wp2_with fail
  refine (HRdy.out w1 hf1).mono ?_
  rintro e w2 ⟨rfl, hf2⟩
  have hf12 := hf1.tr hf2
  have HW1r := Lib.hid (And.intro hf1 hf2)
  have hB2 := hB1.fr hf2 (fun h => h)
  clear hf1 hf2 hB1
  go_wp2_with fail
  refine (HFin.out w2 hf12).mono ?_
  rintro e w3 ⟨⟨z, hz, rfl⟩, rfl⟩
  have HZ := Lib.hid (hz.is HW.out)
  clear hz
  go_wp2_with fail
  refine (HMus.out w2 hf12).mono ?_
  rintro e w3 ⟨o, ho, va, vc, rfl, hov, hf3⟩
  have HO := Lib.hid ho
  have hB3 := hB2.fr hf3 (fun h => h)
  have hf13 := hf12.tr hf3
  have HF13 := Lib.hid hf13
  have HF12 := Lib.hid (And.intro hf12 hf3)
  have HOv := Lib.hid hov
  have hz3 : w.heap.size < w2.heap.size := hB2.lt
  have hz34 : w.heap.size < w3.heap.size := hB3.lt
  have c7 := hf13.cell c7 (fun h => h)
  have b0 := hB3.cell 0 rfl
  have b1 := hB3.cell 1 rfl
  have b2 := hB3.cell 2 rfl
  have b3 := hB3.cell 3 rfl
  have b4 := hB3.frozen
  have HB3 := Lib.hid hB3
  clear ho hov hf3 hf12 hB2 hf13 hB3
  cases hr : rreadyB st with
  | false =>
    have hE : rproE st k own o = 100 := by unfold rproE; rw [hr]; rfl
    have HE := Lib.hid hE
    clear hE hr c7
    go_wp2_with fail
    refine bodyPost_ret (results_row_tmp rfl _ _ w.heap.size 45 #[.int .u64 0, .int .u64 0, .int .i64 0, .slice none 0 0] (0, 0) _ rfl ?_ Try.underlying45 rfl (by kernel_rfl)) rfl ?_
    · exact (row4 HB3.out _ _ _ _).1
    · exact rpro_no HO.out HE.out (by omega) HR.out (HF13.out.trans (row4 HB3.out _ _ _ _).2 (fun x hx h => by rcases h with h | h; exact h; omega))
  | true =>
    have HRd := Lib.hid hr
    clear hr
    by_cases hkf : k < st.f
    · have hE : rproE st k own o = 2 := by unfold rproE; rw [HRd.out, if_pos rfl, if_pos hkf]
      have HE := Lib.hid hE
      clear hE
      have hkf' : (k : Int) < (st.f : Int) := by omega
      go_wp2_with fail
      refine bodyPost_ret (results_row_tmp rfl _ _ w.heap.size 45 #[.int .u64 0, .int .u64 0, .int .i64 0, .slice none 0 0] (0, 0) _ rfl ?_ Try.underlying45 rfl (by kernel_rfl)) rfl ?_
      · exact (row4 HB3.out _ _ _ _).1
      · exact rpro_no HO.out HE.out (by omega) HR.out (HF13.out.trans (row4 HB3.out _ _ _ _).2 (fun x hx h => by rcases h with h | h; exact h; omega))
    · have hkf' : ¬ (k : Int) < (st.f : Int) := by omega
      rcases HZ.out with ⟨rfl, hfn⟩ | ⟨i, v, rfl, hi, hvk, hfn⟩
      · have HFn := Lib.hid hfn
        clear hfn
        cases hos : o.isSome with
        | false =>
          have HOs := Lib.hid hos
          clear hos
          by_cases hl : 100 < own.length
          · have hE : rproE st k own o = 3 := by unfold rproE; rw [HRd.out, if_pos rfl, if_neg hkf, HFn.out]; simp only; rw [if_pos ⟨HOs.out, hl⟩]
            have HE := Lib.hid hE
            have hl' : (100 : Int) < (own.length : Int) := by omega
            clear hE
            have hom : (o.map (·.1.v)).isSome = false := by rw [Option.isSome_map]; exact HOs.out
            rw [hom]
            clear hom
            go_wp2_with fail
            refine bodyPost_ret (results_row_tmp rfl _ _ w.heap.size 45 #[.int .u64 0, .int .u64 0, .int .i64 0, .slice none 0 0] (0, 0) _ rfl ?_ Try.underlying45 rfl (by kernel_rfl)) rfl ?_
            · exact (row4 HB3.out _ _ _ _).1
            · exact rpro_no HO.out HE.out (by omega) HR.out (HF13.out.trans (row4 HB3.out _ _ _ _).2 (fun x hx h => by rcases h with h | h; exact h; omega))
          · have hon : o = none := by cases o with | none => rfl | some _ => cases HOs.out
            have HOn := Lib.hid hon
            have hom : (o.map (·.1.v)).isSome = false := by rw [hon]; rfl
            have hl' : ¬ (100 : Int) < (own.length : Int) := by omega
            rw [hom]
            clear hom hon
            have hE : rproE st k own o = 0 := by unfold rproE; rw [HRd.out, if_pos rfl, if_neg hkf, HFn.out]; simp only; rw [if_neg (by rintro ⟨_, h⟩; omega)]
            have hVV : rproV st k own o = ⟨k, st.n, st.d, own⟩ := by unfold rproV; rw [if_pos hE, HFn.out]; simp only; rw [show (Option.map (fun x => x.1.v) o).getD own = own by rw [HOn.out]; rfl]
            have hSS : rproS st k own o = { st with S := st.S ++ [⟨k, st.n, st.d, own⟩] } := by unfold rproS; rw [if_pos hE, HFn.out]; simp only; rw [show (Option.map (fun x => x.1.v) o).getD own = own by rw [HOn.out]; rfl]
            have HE := Lib.hid (And.intro hE (And.intro hVV hSS))
            clear hE hVV hSS
            have hX := HR.out
            obtain ⟨sv, lv, sl, ml, tv, svs, hX⟩ := hX
            have HX := Lib.hid hX
            have HK := Lib.hid (fun w' (hf : Fr (fun _ => False) w3 w') => And.intro (((hX.blk.fr HF13.out (fun h => h)).fr hf (fun h => h)).cell 5 rfl) (((hX.blk.fr HF13.out (fun h => h)).fr hf (fun h => h)).cell 6 rfl))
            have c5 : w3.cell? ⟨r, 5, none⟩ = some (.int .u64 st.n) := (HK.out w3 (Fr.refl _ w3)).1
            have c6 : w3.cell? ⟨r, 6, none⟩ = some (.int .i64 st.d) := (HK.out w3 (Fr.refl _ w3)).2
            have hbw := HBy.out.fr HF13.out (fun _ _ h => h)
            have hd3 := (Fr.refl (fun _ => False) w3).drew
            have c5a := al_cell c5 (.cells #[.int .u64 0, .int .u64 0, .int .i64 0, .slice none 0 0] 45)
            have c6a := al_cell c6 (.cells #[.int .u64 0, .int .u64 0, .int .i64 0, .slice none 0 0] 45)
            clear hX

            clear b0 b1 b2 b3 b4
            go_upto_region 12 with (fail)
            clear c7
            first
              | go_region_law (first
                  | (go_simp
                     go_at_call 62
                     refine (lcopy_any _ own _ (hbw.fr (((Fr.refl (fun _ => False) w3).alloc _).drew) (fun _ _ h => h)) hol).mono ?_
                     rintro e w4 ⟨va4, vc4, rfl, ho4, hf4⟩
                     have hd4 := (((Fr.refl (fun _ => False) w3).alloc (.cells #[.int .u64 0, .int .u64 0, .int .i64 0, .slice none 0 0] 45)).drew).tr hf4
                     obtain ⟨e5, e6⟩ := HK.out _ hd4
                     have hB4 : Blk w4 w3.heap.size 45 #[.int .u64 0, .int .u64 0, .int .i64 0, .slice none 0 0] := ((Blk.new w3 _ _).drew).fr hf4 (fun h => h)
                     have y0 := hB4.cell 0 rfl
                     have y1 := hB4.cell 1 rfl
                     have y2 := hB4.cell 2 rfl
                     have y3 := hB4.cell 3 rfl
                     have y4 := hB4.frozen
                     have hkind := Lib.hid (Nat.le_refl 1))
                  | (go_simp
                     go_at_call 62
                     refine (lcopy_any _ own _ (hbw.fr ((Fr.refl (fun _ => False) w3).drew) (fun _ _ h => h)) hol).mono ?_
                     rintro e w4 ⟨va4, vc4, rfl, ho4, hf4⟩
                     have hd4 := ((Fr.refl (fun _ => False) w3).drew).tr hf4
                     obtain ⟨e5, e6⟩ := HK.out _ hd4
                     have e5a := al_cell e5 (.cells #[.int .u64 0, .int .u64 0, .int .i64 0, .slice none 0 0] 45)
                     have e6a := al_cell e6 (.cells #[.int .u64 0, .int .u64 0, .int .i64 0, .slice none 0 0] 45)
                     have hkind := Lib.hid (Nat.le_refl 2)))
              | fail
            all_goals
              first
                | (have hk1 : Hid (1 ≤ 1) := hkind
                   clear y0 y1 y2 y3 y4 hk1
                   have hrw6 := row4 hB4 (.int .u64 k) (.int .u64 st.n) (.int .i64 st.d) (.slice va4 own.length vc4)
                   obtain ⟨w6, hw6⟩ : ∃ w6, w6 = (((w4.setCell ⟨w3.heap.size, 0, none⟩ (.int .u64 k)).setCell ⟨w3.heap.size, 1, none⟩ (.int .u64 st.n)).setCell ⟨w3.heap.size, 2, none⟩ (.int .i64 st.d)).setCell ⟨w3.heap.size, 3, none⟩ (.slice va4 own.length vc4) := ⟨_, rfl⟩
                   obtain ⟨bv, hbv⟩ : ∃ b, b = w3.heap.size := ⟨_, rfl⟩
                   rw [← hw6, ← hbv] at hrw6
                   rw [← hw6, ← hbv]
                   obtain ⟨hV5, hf5⟩ := hrw6
                   have hbv4 : bv < w4.heap.size := by rw [hbv]; exact hB4.lt
                   have hf35 : Fr (fun _ => False) w3 w6 := hd4.trans hf5 (fun x hx h => by rcases h with h | h; exact h; omega)
                   have hv4b : ∀ j, (Value.slice va4 own.length vc4).ownBlock = some j → w3.heap.size ≤ j ∧ j ≠ bv := fun j hj => by
                     have := (ho4.lt j hj).1
                     rw [hbv]
                     simp [World.drew] at this
                     omega
                   have ho5 := own_base (own_fr ho4 hf5 (fun j hj => (hv4b j hj).2))
                   have hbv3 : w3.heap.size ≤ bv := by omega
                   clear hB4)
                | (obtain ⟨w6, hw6⟩ : ∃ w6, w6 = w4.alloc (.cells #[.int .u64 k, .int .u64 st.n, .int .i64 st.d, .slice va4 own.length vc4] 45) := ⟨_, rfl⟩
                   obtain ⟨bv, hbv⟩ : ∃ b, b = w4.heap.size := ⟨_, rfl⟩
                   clear e5a e6a
                   have hV5 : Blk w6 bv 45 #[.int .u64 k, .int .u64 st.n, .int .i64 st.d, .slice va4 own.length vc4] := by rw [hw6, hbv]; exact Blk.new _ _ _
                   have hf5 : Fr (fun _ => False) w4 w6 := by rw [hw6]; exact (Fr.refl _ w4).alloc _
                   rw [← hw6, ← hbv]
                   have hf35 := hd4.tr hf5
                   have hv4b : ∀ j, (Value.slice va4 own.length vc4).ownBlock = some j → w3.heap.size ≤ j ∧ j ≠ bv := fun j hj => by
                     have := ho4.lt j hj
                     have := ((Fr.refl (fun _ => False) w3).drew).size
                     omega
                   have ho5 := own_base (own_fr ho4 hf5 (fun _ _ h => h))
                   have hbv3 : w3.heap.size ≤ bv := by have := hd4.size; omega)
              clear c5 c6 c5a c6a e5 e6
              have HF5 := Lib.hid (And.intro hf35 (And.intro hv4b hbv3))
              clear hw6 hf5 hbv hd4 hkind

              have hV6 := hV5
              have ho6 : w6.ownsRow w1.heap.size 5 1 (.slice va4 own.length vc4) own.length (u8s own) := own_up ho5 (fun j hj => by have := (hv4b j hj).1; have := HF12.out.1.size; have := HF12.out.2.size; have := hw1s; omega)
              have hf36 : Fr (fun _ => False) w3 w6 := HF5.out.1
              have hl100 : own.length ≤ 100 := by omega

              have HF6 := Lib.hid hf36
              have hf16 : Fr (fun _ => False) w1 w6 := HW1r.out.2.tr (HF12.out.2.tr hf36)
              have hX1 := HX.out.fr HW1r.out.1 (fun _ _ h => h)
              have hX6 := hX1.fr hf16 (fun _ _ h => h)
              have hrow := hX6.slot
              obtain ⟨la, lc, rfl⟩ := own_sl4 hrow
              have j0 := hX6.blk.cell 9 rfl
              have jf := hX6.blk.frozen 9
              have j1 := hV6.cell 0 rfl
              have j2 := hV6.cell 1 rfl
              have j3 := hV6.cell 2 rfl
              have j4 := hV6.cell 3 rfl
              have hrb : ∀ j, (Value.slice la st.S.length lc).ownBlock = some j → j ≠ r := fun j hj => own_blk_ne hrow hX6.blk (by decide) j hj
              have HB := Lib.hid (fun w' (hf : Fr (fun j => (Value.slice la st.S.length lc).ownBlock = some j) w6 w') => hX6.blk.fr hf (fun h => hrb r h rfl))
              have hr6 := hX6.blk.lt
              have hv6 := hV6.lt
              have HX1 := Lib.hid hX1
              have HV6 := Lib.hid (And.intro hV6 (And.intro ho6 (And.intro hf16 hX6)))
              clear hX1 hX6 hV6 ho6 hf16 hf36 hV5 hd3 hbw ho4 hf4 hf35 HK ho5 hv4b
              go_upto_region 15 with (fail)
              first
                | go_region_law (first
                    | (refine step_append_lies _ (by rfl) _ _ _ (by rfl) 0 45 i0 _ 4 48 Try.underlying29 hi0 hz0 hz1 hz2 rfl (by omega) _ _ _ (by rfl) (own_fr hrow (((Fr.refl (fun _ => False) w6).alloc _).drew) (fun _ _ h => h))
                         ⟨w6.heap.size, 0, none⟩ 1 1 [.int .u64 k, .int .u64 st.n, .int .i64 st.d, .slice va4 own.length vc4] (by rfl) (by rfl) (World.news_of_block (cs := #[.int .u64 k, .int .u64 st.n, .int .i64 st.d, .slice va4 own.length vc4]) (t := 45) (fr := (0, 0)) (heap_alloc_new w6 _)) (by simp [Value.oneCell'])
                         (by omega) (by simp only [maxLen]; omega) (by omega) (by omega) (w6.heap.size + 1) (by simp [World.drew]) ?_
                       intro gg lc' w7 hown7 hgrow hat hlt
                       have hf7 : Fr (fun j => (Value.slice la st.S.length lc).ownBlock = some j) w6 w7 := Fr.grown (((Fr.refl (fun j => (Value.slice la st.S.length lc).ownBlock = some j) w6).alloc _).drew) hgrow (fun j hj _ => hj)
                       have q1 := (HB.out w7 hf7).cell 9 rfl
                       have q2 := (HB.out w7 hf7).frozen 9))
                | fail
              all_goals
                clear j0 jf j1 j2 j3 j4 q1 q2
                obtain ⟨w8, hw8⟩ : ∃ w8, w8 = w7.setCell ⟨r, 9, none⟩ (.slice (some ⟨gg, 0, none⟩) (st.S.length + 1) lc') := ⟨_, rfl⟩
                rw [← hw8]
                obtain ⟨hV6, ho6, hf16, hX6⟩ := HV6.out
                have hf68 : Fr (fun j => j = r ∨ (Value.slice la st.S.length lc).ownBlock = some j) w6 w8 := by
                  rw [hw8]
                  exact (hf7.mono (fun _ _ h => .inr h)).setCell (p := ⟨r, 9, none⟩) (fun _ => .inl rfl) _
                have hb6 : Blk w6 w.heap.size 45 _ := HB3.out.fr HF6.out (fun h => h)
                have hnb : ¬ (w.heap.size = r ∨ (Value.slice la st.S.length lc).ownBlock = some w.heap.size) := by
                  rintro (e | e)
                  · exact hb6.ne_ hX6.blk (by decide) e
                  · have := HFF.out _ (HX.out.slF _ e); omega
                have hnv : ¬ (bv = r ∨ (Value.slice la st.S.length lc).ownBlock = some bv) := by
                  rintro (e | e)
                  · exact hV6.ne_ hX6.blk (by decide) e
                  · have := HFF.out _ (HX.out.slF _ e); have := HF5.out.2.2; have := HF6.out.size; have := hz34; omega
                have hB8 := hb6.fr hf68 hnb
                have hV8 := hV6.fr hf68 hnv
                have b0 := hB8.cell 0 rfl
                have b1 := hB8.cell 1 rfl
                have b2 := hB8.cell 2 rfl
                have b3 := hB8.cell 3 rfl
                have b4 := hB8.frozen
                have v0 := hV8.cell 0 rfl
                have v1 := hV8.cell 1 rfl
                have v2 := hV8.cell 2 rfl
                have v3 := hV8.cell 3 rfl
                have hap : Appended 0 45 4 _ (Value.slice la st.S.length lc) st.S.length 1 _ [.int .u64 k, .int .u64 st.n, .int .i64 st.d, .slice va4 own.length vc4] (.slice (some ⟨gg, 0, none⟩) (st.S.length + 1) lc') w7 :=
                  ⟨hown7, hgrow, by rcases hat with h | h; exact .inl h.symm; right; rw [h]; simp [Value.ownBlock, World.drew]⟩
                have hP := HX1.out.putSlot (((hf16.alloc _).drew)) ⟨k, st.n, st.d, own⟩ ⟨Nat.not_lt.1 hkf, hk64, rfl, rfl, hl100⟩ HFn.out (own_fr ho6 (((Fr.refl (fun _ => False) w6).alloc _).drew) (fun _ _ h => h)) hap
                rw [← hw8] at hP
                have HW8 := Lib.hid (And.intro hB8 (And.intro hf68 (And.intro hP hw8)))
                have HAt := Lib.hid (And.intro hown7 hat)
                clear hV6 ho6 hf16 hX6 hw8 hf68 hB8 hV8 hP hap hown7 hgrow hat hlt hb6
                go_wp2_with fail
                obtain ⟨hB8, hf68, hP, hw8⟩ := HW8.out
                obtain ⟨hE, hVV, hSS⟩ := HE.out
                obtain ⟨hV6, ho6, hf16, hX6⟩ := HV6.out
                have hrw := row4 hB8 (.int .u64 k) (.int .u64 st.n) (.int .i64 st.d) (.slice va4 own.length vc4)
                have hf18 : Fr F w1 w8 := hf16.none_up.trans hf68 (fun j hj h => by
                  rcases h with h | h | h
                  · exact h
                  · rw [h]; exact HX.out.rF
                  · exact HX.out.slF j h)
                have hnF : ¬ More F w1 w7 w.heap.size := by
                  rintro (e | e)
                  · have := HFF.out _ e; omega
                  · have := hw1s; omega
                refine bodyPost_ret (results_row_tmp rfl _ _ w.heap.size 45 #[.int .u64 k, .int .u64 st.n, .int .i64 st.d, .slice va4 own.length vc4] (0, 0) _ rfl ?_ Try.underlying45 rfl (by kernel_rfl)) rfl ?_
                · exact hrw.1
                · have hby8 : Byt w8 (.slice va4 own.length vc4) own := Byt.of_own (own_fr ho6 hf68 (fun j hj => by
                    have h1 := (ho6.lt j hj).1
                    rintro (e | e)
                    · have := HX1.out.blk.lt; omega
                    · have := own_lt HX1.out.slot (k := j) e; omega))
                  refine ⟨o, va4, vc4, HO.out, by rw [hE, hVV]; rfl, ?_, fun j hj _ => ?_, More F w1 w7, ?_, ?_, ?_⟩
                  · rw [hVV]
                    refine hby8.fr hrw.2 (fun j hj e => ?_)
                    have h1 := (ho6.lt j hj).1
                    have := hw1s
                    omega
                  · rw [hVV] at hj
                    have h1 := (ho6.lt j hj).1
                    have := hw1s
                    exact .inr (by omega)
                  · rw [hSS]
                    exact RR.off ⟨_, _, _, _, _, _, hP⟩ hrw.2 hnF
                  · refine Nx.more (by have := hw1s; omega) ?_
                    rw [hw8]
                    simp
                  · exact (HW1r.out.1.none_up.tr hf18).trans hrw.2 (fun j hj h => by rcases h with h | h; exact h; omega)
        | true =>
          have HOs := Lib.hid hos
          clear hos
          obtain ⟨⟨mv, nd⟩, hon⟩ := Option.isSome_iff_exists.1 HOs.out
          obtain ⟨V, hV⟩ : ∃ V, V = mv.v := ⟨_, rfl⟩
          have hV100 : V.length ≤ 100 := by rw [hV]; exact best_len HW.out HO.out mv nd hon
          have hV0 : (o.map (·.1.v)).getD [] = V := by rw [hon, hV]; rfl
          have hV1 : (o.map (·.1.v)).isSome = true := by rw [hon]; rfl
          have hV2 : o.map (·.1.v) = some V := by rw [hon, hV]; rfl
          have HOn := Lib.hid hV2
          have HOv := Lib.hid (show w3.ownsRow w2.heap.size 5 1 (.slice va V.length vc) V.length (u8s V) by have := HOv.out; rw [hV0] at this; exact this)
          rw [hV0, hV1]
          clear hV0 hV1 hV2 hon hV
          have hE : rproE st k own o = 0 := by unfold rproE; rw [HRd.out, if_pos rfl, if_neg hkf, HFn.out]; simp only; rw [if_neg (by rintro ⟨h, _⟩; rw [HOs.out] at h; cases h)]
          have hVV : rproV st k own o = ⟨k, st.n, st.d, V⟩ := by unfold rproV; rw [if_pos hE, HFn.out]; simp only; rw [show (Option.map (fun x => x.1.v) o).getD own = V by rw [HOn.out]; rfl]
          have hSS : rproS st k own o = { st with S := st.S ++ [⟨k, st.n, st.d, V⟩] } := by unfold rproS; rw [if_pos hE, HFn.out]; simp only; rw [show (Option.map (fun x => x.1.v) o).getD own = V by rw [HOn.out]; rfl]
          have HE := Lib.hid (And.intro hE (And.intro hVV hSS))
          clear hE hVV hSS
          have hX := HR.out
          obtain ⟨sv, lv, sl, ml, tv, svs, hX⟩ := hX
          have HX := Lib.hid hX
          have HK := Lib.hid (fun w' (hf : Fr (fun _ => False) w3 w') => And.intro (((hX.blk.fr HF13.out (fun h => h)).fr hf (fun h => h)).cell 5 rfl) (((hX.blk.fr HF13.out (fun h => h)).fr hf (fun h => h)).cell 6 rfl))
          have c5 : w3.cell? ⟨r, 5, none⟩ = some (.int .u64 st.n) := (HK.out w3 (Fr.refl _ w3)).1
          have c6 : w3.cell? ⟨r, 6, none⟩ = some (.int .i64 st.d) := (HK.out w3 (Fr.refl _ w3)).2
          have hbw := HBy.out.fr HF13.out (fun _ _ h => h)
          have hd3 := (Fr.refl (fun _ => False) w3).drew
          have c5a := al_cell c5 (.cells #[.int .u64 0, .int .u64 0, .int .i64 0, .slice none 0 0] 45)
          have c6a := al_cell c6 (.cells #[.int .u64 0, .int .u64 0, .int .i64 0, .slice none 0 0] 45)
          clear hX

          clear b0 b1 b2 b3 b4
          go_upto_region 12 with (fail)
          clear c7
          first
            | go_region_law (first
                | (go_simp
                   go_at_call 62
                   refine (lcopy_any _ own _ (hbw.fr (((Fr.refl (fun _ => False) w3).alloc _).drew) (fun _ _ h => h)) hol).mono ?_
                   rintro e w4 ⟨va4, vc4, rfl, ho4, hf4⟩
                   have hd4 := (((Fr.refl (fun _ => False) w3).alloc (.cells #[.int .u64 0, .int .u64 0, .int .i64 0, .slice none 0 0] 45)).drew).tr hf4
                   obtain ⟨e5, e6⟩ := HK.out _ hd4
                   have hB4 : Blk w4 w3.heap.size 45 #[.int .u64 0, .int .u64 0, .int .i64 0, .slice none 0 0] := ((Blk.new w3 _ _).drew).fr hf4 (fun h => h)
                   have y0 := hB4.cell 0 rfl
                   have y1 := hB4.cell 1 rfl
                   have y2 := hB4.cell 2 rfl
                   have y3 := hB4.cell 3 rfl
                   have y4 := hB4.frozen
                   have hkind := Lib.hid (Nat.le_refl 1))
                | (go_simp
                   go_at_call 62
                   refine (lcopy_any _ own _ (hbw.fr ((Fr.refl (fun _ => False) w3).drew) (fun _ _ h => h)) hol).mono ?_
                   rintro e w4 ⟨va4, vc4, rfl, ho4, hf4⟩
                   have hd4 := ((Fr.refl (fun _ => False) w3).drew).tr hf4
                   obtain ⟨e5, e6⟩ := HK.out _ hd4
                   have e5a := al_cell e5 (.cells #[.int .u64 0, .int .u64 0, .int .i64 0, .slice none 0 0] 45)
                   have e6a := al_cell e6 (.cells #[.int .u64 0, .int .u64 0, .int .i64 0, .slice none 0 0] 45)
                   have hkind := Lib.hid (Nat.le_refl 2)))
            | fail
          all_goals
            first
              | (have hk1 : Hid (1 ≤ 1) := hkind
                 clear y0 y1 y2 y3 y4 hk1
                 have hrw5 := row4 hB4 (.int .u64 k) (.int .u64 st.n) (.int .i64 st.d) (.slice va4 own.length vc4)
                 obtain ⟨w5, hw5⟩ : ∃ w5, w5 = (((w4.setCell ⟨w3.heap.size, 0, none⟩ (.int .u64 k)).setCell ⟨w3.heap.size, 1, none⟩ (.int .u64 st.n)).setCell ⟨w3.heap.size, 2, none⟩ (.int .i64 st.d)).setCell ⟨w3.heap.size, 3, none⟩ (.slice va4 own.length vc4) := ⟨_, rfl⟩
                 obtain ⟨bv, hbv⟩ : ∃ b, b = w3.heap.size := ⟨_, rfl⟩
                 rw [← hw5, ← hbv] at hrw5
                 rw [← hw5, ← hbv]
                 obtain ⟨hV5, hf5⟩ := hrw5
                 have hbv4 : bv < w4.heap.size := by rw [hbv]; exact hB4.lt
                 have hf35 : Fr (fun _ => False) w3 w5 := hd4.trans hf5 (fun x hx h => by rcases h with h | h; exact h; omega)
                 have hv4b : ∀ j, (Value.slice va4 own.length vc4).ownBlock = some j → w3.heap.size ≤ j ∧ j ≠ bv := fun j hj => by
                   have := (ho4.lt j hj).1
                   rw [hbv]
                   simp [World.drew] at this
                   omega
                 have ho5 := own_base (own_fr ho4 hf5 (fun j hj => (hv4b j hj).2))
                 have hbv3 : w3.heap.size ≤ bv := by omega
                 clear hB4)
              | (obtain ⟨w5, hw5⟩ : ∃ w5, w5 = w4.alloc (.cells #[.int .u64 k, .int .u64 st.n, .int .i64 st.d, .slice va4 own.length vc4] 45) := ⟨_, rfl⟩
                 obtain ⟨bv, hbv⟩ : ∃ b, b = w4.heap.size := ⟨_, rfl⟩
                 clear e5a e6a
                 have hV5 : Blk w5 bv 45 #[.int .u64 k, .int .u64 st.n, .int .i64 st.d, .slice va4 own.length vc4] := by rw [hw5, hbv]; exact Blk.new _ _ _
                 have hf5 : Fr (fun _ => False) w4 w5 := by rw [hw5]; exact (Fr.refl _ w4).alloc _
                 rw [← hw5, ← hbv]
                 have hf35 := hd4.tr hf5
                 have hv4b : ∀ j, (Value.slice va4 own.length vc4).ownBlock = some j → w3.heap.size ≤ j ∧ j ≠ bv := fun j hj => by
                   have := ho4.lt j hj
                   have := ((Fr.refl (fun _ => False) w3).drew).size
                   omega
                 have ho5 := own_base (own_fr ho4 hf5 (fun _ _ h => h))
                 have hbv3 : w3.heap.size ≤ bv := by have := hd4.size; omega)
            clear c5 c6 c5a c6a e5 e6
            have HF5 := Lib.hid (And.intro hf35 (And.intro hv4b hbv3))
            clear hw5 hf5 hbv hd4 hkind

            have hV6 : Blk (w5.setCell ⟨bv, 3, none⟩ (.slice va V.length vc)) bv 45 #[.int .u64 k, .int .u64 st.n, .int .i64 st.d, .slice va V.length vc] := by simpa using hV5.set_ 3 (.slice va V.length vc)
            have ho6 : (w5.setCell ⟨bv, 3, none⟩ (.slice va V.length vc)).ownsRow w1.heap.size 5 1 (.slice va V.length vc) V.length (u8s V) := by
              refine own_fr (own_up (own_base (own_fr HOv.out HF5.out.1 (fun _ _ h => h))) (fun j hj => by have := (HOv.out.lt j hj).1; have := HF12.out.1.size; have := hw1s; omega)) (Fr.set1 w5 bv 3 _) (fun j hj e => ?_)
              have := own_lt HOv.out hj
              have := HF5.out.2.2
              omega
            have v3 := hV5.cell 3 rfl
            have f3 := hV5.frozen 3
            go_upto_region 15 with (fail)
            clear v3 f3
            obtain ⟨w6, hw6⟩ : ∃ w6, w6 = w5.setCell ⟨bv, 3, none⟩ (.slice va V.length vc) := ⟨_, rfl⟩
            rw [← hw6] at hV6 ho6 ⊢
            have hf36 : Fr (fun _ => False) w3 w6 := by
              rw [hw6]
              exact HF5.out.1.setCell (p := ⟨bv, 3, none⟩) (fun hlt => by have := HF5.out.2.2; simp only at hlt; omega) _
            have hl100 := hV100
            clear hw6

            have HF6 := Lib.hid hf36
            have hf16 : Fr (fun _ => False) w1 w6 := HW1r.out.2.tr (HF12.out.2.tr hf36)
            have hX1 := HX.out.fr HW1r.out.1 (fun _ _ h => h)
            have hX6 := hX1.fr hf16 (fun _ _ h => h)
            have hrow := hX6.slot
            obtain ⟨la, lc, rfl⟩ := own_sl4 hrow
            have j0 := hX6.blk.cell 9 rfl
            have jf := hX6.blk.frozen 9
            have j1 := hV6.cell 0 rfl
            have j2 := hV6.cell 1 rfl
            have j3 := hV6.cell 2 rfl
            have j4 := hV6.cell 3 rfl
            have hrb : ∀ j, (Value.slice la st.S.length lc).ownBlock = some j → j ≠ r := fun j hj => own_blk_ne hrow hX6.blk (by decide) j hj
            have HB := Lib.hid (fun w' (hf : Fr (fun j => (Value.slice la st.S.length lc).ownBlock = some j) w6 w') => hX6.blk.fr hf (fun h => hrb r h rfl))
            have hr6 := hX6.blk.lt
            have hv6 := hV6.lt
            have HX1 := Lib.hid hX1
            have HV6 := Lib.hid (And.intro hV6 (And.intro ho6 (And.intro hf16 hX6)))
            clear hX1 hX6 hV6 ho6 hf16 hf36 hV5 hd3 hbw ho4 hf4 hf35 HK ho5 hv4b
            go_upto_region 15 with (fail)
            first
              | go_region_law (first
                  | (refine step_append_lies _ (by rfl) _ _ _ (by rfl) 0 45 i0 _ 4 48 Try.underlying29 hi0 hz0 hz1 hz2 rfl (by omega) _ _ _ (by rfl) (own_fr hrow (((Fr.refl (fun _ => False) w6).alloc _).drew) (fun _ _ h => h))
                       ⟨w6.heap.size, 0, none⟩ 1 1 [.int .u64 k, .int .u64 st.n, .int .i64 st.d, .slice va V.length vc] (by rfl) (by rfl) (World.news_of_block (cs := #[.int .u64 k, .int .u64 st.n, .int .i64 st.d, .slice va V.length vc]) (t := 45) (fr := (0, 0)) (heap_alloc_new w6 _)) (by simp [Value.oneCell'])
                       (by omega) (by simp only [maxLen]; omega) (by omega) (by omega) (w6.heap.size + 1) (by simp [World.drew]) ?_
                     intro gg lc' w7 hown7 hgrow hat hlt
                     have hf7 : Fr (fun j => (Value.slice la st.S.length lc).ownBlock = some j) w6 w7 := Fr.grown (((Fr.refl (fun j => (Value.slice la st.S.length lc).ownBlock = some j) w6).alloc _).drew) hgrow (fun j hj _ => hj)
                     have q1 := (HB.out w7 hf7).cell 9 rfl
                     have q2 := (HB.out w7 hf7).frozen 9))
              | fail
            all_goals
              clear j0 jf j1 j2 j3 j4 q1 q2
              obtain ⟨w8, hw8⟩ : ∃ w8, w8 = w7.setCell ⟨r, 9, none⟩ (.slice (some ⟨gg, 0, none⟩) (st.S.length + 1) lc') := ⟨_, rfl⟩
              rw [← hw8]
              obtain ⟨hV6, ho6, hf16, hX6⟩ := HV6.out
              have hf68 : Fr (fun j => j = r ∨ (Value.slice la st.S.length lc).ownBlock = some j) w6 w8 := by
                rw [hw8]
                exact (hf7.mono (fun _ _ h => .inr h)).setCell (p := ⟨r, 9, none⟩) (fun _ => .inl rfl) _
              have hb6 : Blk w6 w.heap.size 45 _ := HB3.out.fr HF6.out (fun h => h)
              have hnb : ¬ (w.heap.size = r ∨ (Value.slice la st.S.length lc).ownBlock = some w.heap.size) := by
                rintro (e | e)
                · exact hb6.ne_ hX6.blk (by decide) e
                · have := HFF.out _ (HX.out.slF _ e); omega
              have hnv : ¬ (bv = r ∨ (Value.slice la st.S.length lc).ownBlock = some bv) := by
                rintro (e | e)
                · exact hV6.ne_ hX6.blk (by decide) e
                · have := HFF.out _ (HX.out.slF _ e); have := HF5.out.2.2; have := HF6.out.size; have := hz34; omega
              have hB8 := hb6.fr hf68 hnb
              have hV8 := hV6.fr hf68 hnv
              have b0 := hB8.cell 0 rfl
              have b1 := hB8.cell 1 rfl
              have b2 := hB8.cell 2 rfl
              have b3 := hB8.cell 3 rfl
              have b4 := hB8.frozen
              have v0 := hV8.cell 0 rfl
              have v1 := hV8.cell 1 rfl
              have v2 := hV8.cell 2 rfl
              have v3 := hV8.cell 3 rfl
              have hap : Appended 0 45 4 _ (Value.slice la st.S.length lc) st.S.length 1 _ [.int .u64 k, .int .u64 st.n, .int .i64 st.d, .slice va V.length vc] (.slice (some ⟨gg, 0, none⟩) (st.S.length + 1) lc') w7 :=
                ⟨hown7, hgrow, by rcases hat with h | h; exact .inl h.symm; right; rw [h]; simp [Value.ownBlock, World.drew]⟩
              have hP := HX1.out.putSlot (((hf16.alloc _).drew)) ⟨k, st.n, st.d, V⟩ ⟨Nat.not_lt.1 hkf, hk64, rfl, rfl, hl100⟩ HFn.out (own_fr ho6 (((Fr.refl (fun _ => False) w6).alloc _).drew) (fun _ _ h => h)) hap
              rw [← hw8] at hP
              have HW8 := Lib.hid (And.intro hB8 (And.intro hf68 (And.intro hP hw8)))
              have HAt := Lib.hid (And.intro hown7 hat)
              clear hV6 ho6 hf16 hX6 hw8 hf68 hB8 hV8 hP hap hown7 hgrow hat hlt hb6
              go_wp2_with fail
              obtain ⟨hB8, hf68, hP, hw8⟩ := HW8.out
              obtain ⟨hE, hVV, hSS⟩ := HE.out
              obtain ⟨hV6, ho6, hf16, hX6⟩ := HV6.out
              have hrw := row4 hB8 (.int .u64 k) (.int .u64 st.n) (.int .i64 st.d) (.slice va V.length vc)
              have hf18 : Fr F w1 w8 := hf16.none_up.trans hf68 (fun j hj h => by
                rcases h with h | h | h
                · exact h
                · rw [h]; exact HX.out.rF
                · exact HX.out.slF j h)
              have hnF : ¬ More F w1 w7 w.heap.size := by
                rintro (e | e)
                · have := HFF.out _ e; omega
                · have := hw1s; omega
              refine bodyPost_ret (results_row_tmp rfl _ _ w.heap.size 45 #[.int .u64 k, .int .u64 st.n, .int .i64 st.d, .slice va V.length vc] (0, 0) _ rfl ?_ Try.underlying45 rfl (by kernel_rfl)) rfl ?_
              · exact hrw.1
              · have hby8 : Byt w8 (.slice va V.length vc) V := Byt.of_own (own_fr ho6 hf68 (fun j hj => by
                  have h1 := (ho6.lt j hj).1
                  rintro (e | e)
                  · have := HX1.out.blk.lt; omega
                  · have := own_lt HX1.out.slot (k := j) e; omega))
                refine ⟨o, va, vc, HO.out, by rw [hE, hVV]; rfl, ?_, fun j hj _ => ?_, More F w1 w7, ?_, ?_, ?_⟩
                · rw [hVV]
                  refine hby8.fr hrw.2 (fun j hj e => ?_)
                  have h1 := (ho6.lt j hj).1
                  have := hw1s
                  omega
                · rw [hVV] at hj
                  have h1 := (ho6.lt j hj).1
                  have := hw1s
                  exact .inr (by omega)
                · rw [hSS]
                  exact RR.off ⟨_, _, _, _, _, _, hP⟩ hrw.2 hnF
                · refine Nx.more (by have := hw1s; omega) ?_
                  rw [hw8]
                  simp
                · exact (HW1r.out.1.none_up.tr hf18).trans hrw.2 (fun j hj h => by rcases h with h | h; exact h; omega)
      · have hX := HR.out
        obtain ⟨sv, lv, sl, ml, tv, svs, hX⟩ := hX
        obtain ⟨g, lcs, s, e1, q0, q1, q2, q3, hbs, hoff⟩ := hX.slot_at hi
        have hE : rproE st k own o = 0 := by unfold rproE; rw [HRd.out, if_pos rfl, if_neg hkf, hfn]
        have hVV : rproV st k own o = v := by unfold rproV; rw [if_pos hE, hfn]
        have hSS : rproS st k own o = st := by unfold rproS; rw [if_pos hE, hfn]
        have HE := Lib.hid (And.intro hE (And.intro hVV hSS))
        subst e1
        have c9 : w3.cell? ⟨r, 9, none⟩ = some (.slice (some ⟨g, 0, none⟩) st.S.length lcs) := (hX.blk.fr HF13.out (fun h => h)).cell 9 rfl
        have q0 := HF13.out.cell q0 (fun h => h)
        have q1 := HF13.out.cell q1 (fun h => h)
        have q2 := HF13.out.cell q2 (fun h => h)
        have q3 := HF13.out.cell q3 (fun h => h)
        have hil : (i : Int) < (st.S.length : Int) := by have := (List.getElem?_eq_some_iff.1 hi).1; omega
        have hi0 : (0 : Int) ≤ (i : Int) := by omega
        have hoF : ∀ j, s.ownBlock = some j → v.v ≠ [] → F j := fun j hj hn => Classical.byContradiction fun hc => hoff j hj hn (.inl hc)
        have HBs := Lib.hid (And.intro hbs hoF)
        obtain ⟨sa, sc', rfl, -, -⟩ := hbs
        clear hX hoff hoF hE hVV hSS hi hvk hfn
        go_wp2_with fail
        obtain ⟨hE, hVV, hSS⟩ := HE.out
        have hrw := row4 HB3.out (.int .u64 v.s) (.int .u64 v.n) (.int .i64 v.d) (.slice sa v.v.length sc')
        have hfw : Fr (fun _ => False) w _ := HF13.out.trans hrw.2 (fun x hx h => by rcases h with h | h; exact h; omega)
        refine bodyPost_ret (results_row_tmp rfl _ _ w.heap.size 45 #[.int .u64 v.s, .int .u64 v.n, .int .i64 v.d, .slice sa v.v.length sc'] (0, 0) _ rfl ?_ Try.underlying45 rfl (by kernel_rfl)) rfl ?_
        · exact hrw.1
        · refine ⟨o, sa, sc', HO.out, by rw [hE, hVV]; rfl, by rw [hVV]; exact HBs.out.1.fr hfw (fun _ _ h => h), fun j hj hn => .inl (by rw [hVV] at hj hn; exact HBs.out.2 j hj hn), F, by rw [hSS]; exact HR.out.none_ hfw, Nx.refl _ _ _, hfw.none_up⟩
end Go.Proofs.Ytliljjlegofmkaa
