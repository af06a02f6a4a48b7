/- Merged: PRh. -/
import Derived.Test.YtkpfgoalohbfeaaBg
import Derived.IntWalk
/- The walk of the document's Promise. -/
namespace Go.Proofs.Ytkpfgoalohbfeaa
open Go.RowKit

set_option maxRecDepth 100000 in
set_option maxHeartbeats 16000000 in
theorem rprm_any (r : Nat) (st : Rs) (F : Nat → Prop) (x : Int) (v : Value) (l : List Vt) (w : World) (h : RR w r st F) (hl : VtL w v l (fun _ => False)) (hll : l.length ≤ 1000000) (hb : ∀ p ∈ l, p.v.length ≤ 1000000) :
    Calls Try.prog 86 #[.pointer (some ⟨r, 0, none⟩), .int .i64 x, v] w fun e w' => e = .returned (.int .i64 (rprmE st x l)) ∧ ∃ F', RR w' r (rprmS st x l) F' ∧ Nx F F' w w' ∧ Fr F w w' := by
  obtain ⟨i0, hi0, hz0, hz1, hz2⟩ := info_parts vtinfo
  obtain ⟨i1, hi1, hy0, hy1, hy2⟩ := info_parts tdinfo
  have hwf := h.wf
  have HR := Lib.hid h
  obtain ⟨sv, lv, sl, ml, tv, svs, h⟩ := h
  obtain ⟨la, lc, rfl⟩ := own_sl4 h.told
  have hlr := h.r_lt.2.1
  unfold maxLen at hlr
  have hLn : st.L.length ≤ 12 := by
    have hnl := hwf.ok.n
    have := nodup_le (st.L.map (·.1)) (List.range st.q.n.toNat) (by
      rw [List.nodup_iff_pairwise_ne, List.pairwise_map]; exact hwf.dist) (fun y hy => by
      obtain ⟨t, ht, rfl⟩ := List.mem_map.1 hy
      rw [List.mem_range]; exact hwf.node t ht)
    rw [List.length_map, List.length_range] at this
    omega
  have c8 : w.cell? ⟨r, 8, none⟩ = some (.slice la st.L.length lc) := h.blk.cell 8 rfl
  have HC8 := Lib.hid c8
  clear c8
  have c1 : w.cell? ⟨r, 1, none⟩ = some (.int .i64 st.q.n) := h.blk.cell 1 rfl
  have c5 : w.cell? ⟨r, 5, none⟩ = some (.int .u64 st.n) := h.blk.cell 5 rfl
  have c6 : w.cell? ⟨r, 6, none⟩ = some (.int .i64 st.d) := h.blk.cell 6 rfl
  have c7 : w.cell? ⟨r, 7, none⟩ = some (.int .u64 st.f) := h.blk.cell 7 rfl
  have HX := Lib.hid h
  have HW := Lib.hid hwf
  have hin : inN st.q x = decide (0 ≤ x ∧ x < st.q.n) := rfl
  obtain ⟨E, hE⟩ : ∃ E, E = rprmE st x l := ⟨_, rfl⟩
  obtain ⟨S', hS⟩ : ∃ S', S' = rprmS st x l := ⟨_, rfl⟩
  rw [← hE, ← hS]
  have HE := Lib.hid hE
  have HS := Lib.hid hS
  have HIn := Lib.hid hin
  have HB := Lib.hid hb
  have HL0 := Lib.hid hl
  obtain ⟨⟨A, c, rfl, hl1⟩, -⟩ := hl
  have HL := Lib.hid hl1
  have HC := Lib.hid (And.intro c5 (And.intro c6 c7))
  have hf1 := hwf.f1
  have hf64 := hwf.f64
  clear h hwf hE hS hin hb hl1 c5 c6 c7
  go_enter Try.func86, Try.ntmps86
  rcases (by omega : x < 0 ∨ (0 ≤ x ∧ st.q.n ≤ x) ∨ (0 ≤ x ∧ x < st.q.n)) with hx | hx | hx
  · have he : E = 2 := by rw [HE.out]; unfold rprmE; rw [HIn.out, decide_eq_false (by omega)]; rfl
    have hs : S' = st := by rw [HS.out]; unfold rprmS; rw [if_neg (by rw [← HE.out, he]; rintro ⟨h, _⟩; omega)]
    have HEE := Lib.hid (And.intro he hs)
    clear he hs
    go_wp2_with fail
    go_ret
    exact ⟨by rw [HEE.out.1]; rfl, F, by rw [HEE.out.2]; exact HR.out, Nx.refl _ _ _, Fr.refl _ _⟩
  · obtain ⟨hx0, hx1⟩ := hx
    have he : E = 2 := by rw [HE.out]; unfold rprmE; rw [HIn.out, decide_eq_false (by omega)]; rfl
    have hs : S' = st := by rw [HS.out]; unfold rprmS; rw [if_neg (by rw [← HE.out, he]; rintro ⟨h, _⟩; omega)]
    have HEE := Lib.hid (And.intro he hs)
    clear he hs
    have hx0' : ¬ x < 0 := by omega
    go_wp2_with fail
    go_ret
    exact ⟨by rw [HEE.out.1]; rfl, F, by rw [HEE.out.2]; exact HR.out, Nx.refl _ _ _, Fr.refl _ _⟩
  obtain ⟨hx0, hx1⟩ := hx
  have hinT : inN st.q x = true := by rw [HIn.out]; exact decide_eq_true ⟨hx0, hx1⟩
  have HInT := Lib.hid hinT
  have hx0' : ¬ x < 0 := by omega
  have hx1' : ¬ st.q.n ≤ x := by omega
  clear hinT
  go_wp2_with fail
  clear c1 hx0' hx1'
  go_loopg [7] l.length (fun g x7 wr => ∃ (j last : Nat), j + g = l.length ∧ x7 = .int .i64 j ∧ LastV st.f l j last ∧ rightV st.n st.d (st.f - 1) l = rightV st.n st.d last (l.drop j) ∧ Fr (fun _ => False) w wr)
  case atStart => exact ⟨0, st.f - 1, by omega, rfl, .inl ⟨rfl, rfl⟩, by rw [List.drop_zero], Fr.refl _ _⟩
  case round =>
    obtain ⟨j, last, hj, rfl, hlast, hr, hfr⟩ := hrel
    have HJ := Lib.hid (And.intro hj (And.intro hlast hr))
    have hj' : j ≤ l.length := by omega
    clear hj hlast hr
    by_cases hlt : j < l.length
    · obtain ⟨p, hp⟩ : ∃ p, l[j]? = some p := ⟨_, List.getElem?_eq_getElem hlt⟩
      obtain ⟨b, off, s, rfl, -, hat, -⟩ := HL.out j p hp
      have hd := Lib.hid (drop_cons hp)
      have hby := hat.by_
      have hpl := hat.l
      unfold maxLen at hpl
      obtain ⟨sa, sc, rfl, -, -⟩ := hby
      have q0 := hfr.cell hat.c0 (fun h => h)
      have q1 := hfr.cell hat.c1 (fun h => h)
      have q2 := hfr.cell hat.c2 (fun h => h)
      have q3 := hfr.cell hat.c3 (fun h => h)
      have HP := Lib.hid hp
      have HAt := Lib.hid hat
      obtain ⟨w2, hw2⟩ : ∃ w2, w2 = wr.alloc (.cells #[.int .u64 p.s, .int .u64 p.n, .int .i64 p.d, .slice sa p.v.length sc] 46) := ⟨_, rfl⟩
      have hf2 : Fr (fun _ => False) wr w2 := by rw [hw2]; exact (Fr.refl _ wr).alloc _
      obtain ⟨bv, hbv⟩ : ∃ b, b = wr.heap.size := ⟨_, rfl⟩
      have hV2 : Blk w2 bv 46 #[.int .u64 p.s, .int .u64 p.n, .int .i64 p.d, .slice sa p.v.length sc] := by rw [hw2, hbv]; exact Blk.new _ _ _
      have hfr2 := hfr.tr hf2
      have HW2 := Lib.hid hw2
      have HBV := Lib.hid hbv
      clear hat hp hw2 hf2 hbv hfr
      go_upto_region 7 with (fail)
      rw [← HW2.out, ← HBV.out]
      clear HW2 HBV q0 q1 q2 q3
      have v1 := hV2.cell 1 rfl
      have v2 := hV2.cell 2 rfl
      go_wp2_with fail
      refine (rright9_any p.n p.d w2).mono ?_
      rintro e w3 ⟨rfl, hf3⟩
      have hV3 := hV2.fr hf3 (fun h => h)
      have hfr3 := hfr2.tr hf3
      clear v1 v2 hV2 hfr2 hf3
      have v1 := hV3.cell 1 rfl
      have v2 := hV3.cell 2 rfl
      have c5 := hfr3.cell HC.out.1 (fun h => h)
      have c6 := hfr3.cell HC.out.2.1 (fun h => h)
      have hd3 := (Fr.refl (fun _ => False) w3).drew
      go_upto_region 8 with (fail)
      first
        | go_region_held3 (fun wx => wx.cell? ⟨bv, 1, none⟩ = some (.int .u64 p.n) ∧ wx.cell? ⟨bv, 2, none⟩ = some (.int .i64 p.d) ∧ wx.cell? ⟨r, 5, none⟩ = some (.int .u64 st.n) ∧ wx.cell? ⟨r, 6, none⟩ = some (.int .i64 st.d)) (first | exact ⟨v1, v2, c5, c6⟩ | exact hS4)
          ((go_at_call 19
            refine (rless_any p.n p.d st.n st.d _).mono ?_
            rintro e w4 ⟨rfl, hf4⟩
            have hd4 := hd3.tr hf4
            have hS4 := And.intro (hd4.cell v1 (fun h => h)) (And.intro (hd4.cell v2 (fun h => h)) (And.intro (hd4.cell c5 (fun h => h)) (hd4.cell c6 (fun h => h))))))
        | fail
      all_goals
        have hV4 := hV3.fr hd4 (fun h => h)
        have hfr4 := hfr3.tr hd4
        clear hV3 hfr3 hd4 hd3 hf4 hS4 v1 v2 c5 c6
        have v0 := hV4.cell 0 rfl
        have v3 := hV4.cell 3 rfl
        have c7 := hfr4.cell HC.out.2.2 (fun h => h)
        by_cases hsf : p.s < st.f
        · have hsf' : (p.s : Int) < (st.f : Int) := by omega
          have hle : p.s ≤ last := by
            rcases HJ.out.2.1 with ⟨_, h⟩ | ⟨u, _, _, h1, h2⟩
            · omega
            · omega
          have hone : oneV st.n st.d last p = false := by unfold oneV; rw [decide_eq_true hle]; rfl
          have HOne := Lib.hid hone
          clear hone
          go_upto_region 9 with (fail)
          go_quiet (fail)
          go_wp2_with fail
          go_ret
          have hrr : rightV st.n st.d (st.f - 1) l = false := by rw [HJ.out.2.2, hd.out]; simp only [rightV]; rw [HOne.out]; rfl
          have he : E = 91 := by rw [HE.out]; unfold rprmE; rw [HInT.out, hrr]; rfl
          have hs : S' = st := by rw [HS.out]; unfold rprmS; rw [if_neg (by rw [← HE.out, he]; rintro ⟨h, _⟩; omega)]
          exact ⟨by rw [he]; rfl, F, by rw [hs]; exact HR.out.none_ (hfr4.drewN _), Nx.refl _ _ _, (hfr4.drewN _).none_up⟩
        · have hsf' : ¬ (p.s : Int) < (st.f : Int) := by omega
          have HFs := Lib.hid (show st.f ≤ p.s by omega)
          rcases HJ.out.2.1 with ⟨hj0, hla⟩ | ⟨u, hj0, hu, hla, hfu⟩
          · subst hj0
            have HPl := Lib.hid (show ¬ p.s ≤ last by omega)
            have hjf : ¬ (0 : Int) < ((0 : Nat) : Int) := by omega
            clear hla
            cases hr : rightB p.n p.d with
            | false =>
              have HRt := Lib.hid hr
              clear hr
              have hone : oneV st.n st.d last p = false := by unfold oneV; rw [HRt.out]; simp
              have HOne := Lib.hid hone
              clear hone
              go_upto_region 9 with (fail)
              go_quiet (fail)
              go_wp2_with fail
              go_ret
              have hrr : rightV st.n st.d (st.f - 1) l = false := by rw [HJ.out.2.2, hd.out]; simp only [rightV]; rw [HOne.out]; rfl
              have he : E = 91 := by rw [HE.out]; unfold rprmE; rw [HInT.out, hrr]; rfl
              have hs : S' = st := by rw [HS.out]; unfold rprmS; rw [if_neg (by rw [← HE.out, he]; rintro ⟨h, _⟩; omega)]
              exact ⟨by rw [he]; rfl, F, by rw [hs]; exact HR.out.none_ (hfr4.drewN _), Nx.refl _ _ _, (hfr4.drewN _).none_up⟩
            | true =>
              have HRt := Lib.hid hr
              clear hr
              cases hlb : lessB p.n p.d st.n st.d with
              | false =>
                have HLt := Lib.hid hlb
                clear hlb
                have hone : oneV st.n st.d last p = false := by unfold oneV; rw [HLt.out]; simp
                have HOne := Lib.hid hone
                clear hone
                go_upto_region 9 with (fail)
                go_quiet (fail)
                go_wp2_with fail
                go_ret
                have hrr : rightV st.n st.d (st.f - 1) l = false := by rw [HJ.out.2.2, hd.out]; simp only [rightV]; rw [HOne.out]; rfl
                have he : E = 91 := by rw [HE.out]; unfold rprmE; rw [HInT.out, hrr]; rfl
                have hs : S' = st := by rw [HS.out]; unfold rprmS; rw [if_neg (by rw [← HE.out, he]; rintro ⟨h, _⟩; omega)]
                exact ⟨by rw [he]; rfl, F, by rw [hs]; exact HR.out.none_ (hfr4.drewN _), Nx.refl _ _ _, (hfr4.drewN _).none_up⟩
              | true =>
                have HLt := Lib.hid hlb
                clear hlb
                by_cases hv : (100 : Int) < (p.v.length : Int)
                · have hvn : 100 < p.v.length := by omega
                  have hone : oneV st.n st.d last p = false := by unfold oneV; rw [decide_eq_true hvn]; simp
                  have HOne := Lib.hid hone
                  clear hone
                  go_upto_region 9 with (fail)
                  go_quiet (fail)
                  go_wp2_with fail
                  go_ret
                  have hrr : rightV st.n st.d (st.f - 1) l = false := by rw [HJ.out.2.2, hd.out]; simp only [rightV]; rw [HOne.out]; rfl
                  have he : E = 91 := by rw [HE.out]; unfold rprmE; rw [HInT.out, hrr]; rfl
                  have hs : S' = st := by rw [HS.out]; unfold rprmS; rw [if_neg (by rw [← HE.out, he]; rintro ⟨h, _⟩; omega)]
                  exact ⟨by rw [he]; rfl, F, by rw [hs]; exact HR.out.none_ (hfr4.drewN _), Nx.refl _ _ _, (hfr4.drewN _).none_up⟩
                · have hvn : ¬ 100 < p.v.length := by omega
                  have hone : oneV st.n st.d last p = true := by unfold oneV; rw [HRt.out, HLt.out, decide_eq_false HPl.out, decide_eq_false (by omega)]; rfl
                  have HOne := Lib.hid hone
                  clear hone
                  go_upto_region 9 with (fail)
                  go_quiet (fail)
                  go_wp2_with fail
                  go_roundg (l.length - (0 + 1))
                  case measure => have := HJ.out.1; omega
                  case rel =>
                    refine ⟨0 + 1, p.s, by have := HJ.out.1; omega, by go_num, .inr ⟨p, by omega, HP.out, rfl, HFs.out⟩, ?_, hfr4.drewN _⟩
                    rw [HJ.out.2.2, hd.out]
                    simp only [rightV]
                    rw [HOne.out, Bool.true_and]
          · obtain ⟨i, rfl⟩ : ∃ i, j = i + 1 := ⟨j - 1, by omega⟩
            rw [Nat.add_sub_cancel] at hu
            obtain ⟨b', off', s', e1, -, hatu, -⟩ := HL.out i u hu
            injection e1 with e1
            injection e1 with e1 e2
            subst e1 e2
            have u0 := hfr4.cell hatu.c0 (fun h => h)
            have hjp : (0 : Int) < ((i + 1 : Nat) : Int) := by omega
            have hjp' : 0 < i + 1 := by omega
            have hwr : IntKind.i64.wrap (((i + 1 : Nat) : Int) - 1) = (i : Int) := by rw [show ((i + 1 : Nat) : Int) - 1 = (i : Int) by omega]; exact IntWalk.i64_in _ (by omega)
            have hi0 : (0 : Int) ≤ (i : Int) := by omega
            have hil : (i : Int) < (l.length : Int) := by omega
            clear hu hatu hj0 hfu
            by_cases hpu : p.s ≤ u.s
            · have hpu' : (p.s : Int) ≤ (u.s : Int) := by omega
              have hle : p.s ≤ last := by omega
              clear hla
              have hone : oneV st.n st.d last p = false := by unfold oneV; rw [decide_eq_true hle]; rfl
              have HOne := Lib.hid hone
              clear hone
              go_upto_region 9 with (fail)
              go_quiet (fail)
              go_wp2_with fail
              go_ret
              have hrr : rightV st.n st.d (st.f - 1) l = false := by rw [HJ.out.2.2, hd.out]; simp only [rightV]; rw [HOne.out]; rfl
              have he : E = 91 := by rw [HE.out]; unfold rprmE; rw [HInT.out, hrr]; rfl
              have hs : S' = st := by rw [HS.out]; unfold rprmS; rw [if_neg (by rw [← HE.out, he]; rintro ⟨h, _⟩; omega)]
              exact ⟨by rw [he]; rfl, F, by rw [hs]; exact HR.out.none_ (hfr4.drewN _), Nx.refl _ _ _, (hfr4.drewN _).none_up⟩
            · have hpu' : ¬ (p.s : Int) ≤ (u.s : Int) := by omega
              have HPl := Lib.hid (show ¬ p.s ≤ last by omega)
              clear hla
              cases hr : rightB p.n p.d with
              | false =>
                have HRt := Lib.hid hr
                clear hr
                have hone : oneV st.n st.d last p = false := by unfold oneV; rw [HRt.out]; simp
                have HOne := Lib.hid hone
                clear hone
                go_upto_region 9 with (fail)
                go_quiet (fail)
                go_wp2_with fail
                go_ret
                have hrr : rightV st.n st.d (st.f - 1) l = false := by rw [HJ.out.2.2, hd.out]; simp only [rightV]; rw [HOne.out]; rfl
                have he : E = 91 := by rw [HE.out]; unfold rprmE; rw [HInT.out, hrr]; rfl
                have hs : S' = st := by rw [HS.out]; unfold rprmS; rw [if_neg (by rw [← HE.out, he]; rintro ⟨h, _⟩; omega)]
                exact ⟨by rw [he]; rfl, F, by rw [hs]; exact HR.out.none_ (hfr4.drewN _), Nx.refl _ _ _, (hfr4.drewN _).none_up⟩
              | true =>
                have HRt := Lib.hid hr
                clear hr
                cases hlb : lessB p.n p.d st.n st.d with
                | false =>
                  have HLt := Lib.hid hlb
                  clear hlb
                  have hone : oneV st.n st.d last p = false := by unfold oneV; rw [HLt.out]; simp
                  have HOne := Lib.hid hone
                  clear hone
                  go_upto_region 9 with (fail)
                  go_quiet (fail)
                  go_wp2_with fail
                  go_ret
                  have hrr : rightV st.n st.d (st.f - 1) l = false := by rw [HJ.out.2.2, hd.out]; simp only [rightV]; rw [HOne.out]; rfl
                  have he : E = 91 := by rw [HE.out]; unfold rprmE; rw [HInT.out, hrr]; rfl
                  have hs : S' = st := by rw [HS.out]; unfold rprmS; rw [if_neg (by rw [← HE.out, he]; rintro ⟨h, _⟩; omega)]
                  exact ⟨by rw [he]; rfl, F, by rw [hs]; exact HR.out.none_ (hfr4.drewN _), Nx.refl _ _ _, (hfr4.drewN _).none_up⟩
                | true =>
                  have HLt := Lib.hid hlb
                  clear hlb
                  by_cases hv : (100 : Int) < (p.v.length : Int)
                  · have hvn : 100 < p.v.length := by omega
                    have hone : oneV st.n st.d last p = false := by unfold oneV; rw [decide_eq_true hvn]; simp
                    have HOne := Lib.hid hone
                    clear hone
                    go_upto_region 9 with (fail)
                    go_quiet (fail)
                    go_wp2_with fail
                    go_ret
                    have hrr : rightV st.n st.d (st.f - 1) l = false := by rw [HJ.out.2.2, hd.out]; simp only [rightV]; rw [HOne.out]; rfl
                    have he : E = 91 := by rw [HE.out]; unfold rprmE; rw [HInT.out, hrr]; rfl
                    have hs : S' = st := by rw [HS.out]; unfold rprmS; rw [if_neg (by rw [← HE.out, he]; rintro ⟨h, _⟩; omega)]
                    exact ⟨by rw [he]; rfl, F, by rw [hs]; exact HR.out.none_ (hfr4.drewN _), Nx.refl _ _ _, (hfr4.drewN _).none_up⟩
                  · have hvn : ¬ 100 < p.v.length := by omega
                    have hone : oneV st.n st.d last p = true := by unfold oneV; rw [HRt.out, HLt.out, decide_eq_false HPl.out, decide_eq_false (by omega)]; rfl
                    have HOne := Lib.hid hone
                    clear hone
                    go_upto_region 9 with (fail)
                    go_quiet (fail)
                    go_wp2_with fail
                    go_roundg (l.length - ((i + 1) + 1))
                    case measure => have := HJ.out.1; omega
                    case rel =>
                      refine ⟨(i + 1) + 1, p.s, by have := HJ.out.1; omega, by go_num, .inr ⟨p, by omega, HP.out, rfl, HFs.out⟩, ?_, hfr4.drewN _⟩
                      rw [HJ.out.2.2, hd.out]
                      simp only [rightV]
                      rw [HOne.out, Bool.true_and]
    · obtain rfl : j = l.length := by omega
      have hrt : rightV st.n st.d (st.f - 1) l = true := by rw [HJ.out.2.2, List.drop_length]; rfl
      have he : E = 0 := by rw [HE.out]; unfold rprmE; rw [HInT.out, hrt]; rfl
      have HEz := Lib.hid (And.intro he hrt)
      obtain ⟨y, rfl⟩ := Int.eq_ofNat_of_zero_le hx0
      clear he hrt HJ hj' hlt
      go_wp2_with fail
      go_loopg [11] st.L.length (fun g x11 wr => ∃ (i : Nat), i + g = st.L.length ∧ x11 = .int .i64 i ∧ toldBit (st.L.take i) y = false ∧ Fr (fun _ => False) w wr)
      case atStart => exact ⟨0, by omega, rfl, rfl, hfr⟩
      case round =>
        clear hfr
        obtain ⟨i, hi, rfl, hno, hfr⟩ := hrel
        have HI := Lib.hid hi
        have HNo := Lib.hid hno
        have hi' : i ≤ st.L.length := by omega
        have c8 := hfr.cell HC8.out (fun h => h)
        clear hi hno
        by_cases hil : i < st.L.length
        · obtain ⟨t, ht⟩ : ∃ t, st.L[i]? = some t := ⟨_, List.getElem?_eq_getElem hil⟩
          obtain ⟨g, lc', v, e1, q0, -, -⟩ := HX.out.told_at ht
          injection e1 with e1 _ e2
          subst e1 e2
          have q0 := hfr.cell q0 (fun h => h)
          have HTT := Lib.hid ht
          clear ht
          by_cases hty : t.1 = y
          · have hty' : ((t.1 : Int) == (y : Int)) = true := by simp [hty]
            have HTy := Lib.hid hty
            clear hty
            go_wp2_with fail
            go_ret
            have htb : toldBit st.L y = true := by
              unfold toldBit
              rw [List.any_eq_true]
              exact ⟨t, List.mem_of_getElem? HTT.out, by simpa using HTy.out⟩
            have hs : S' = st := by rw [HS.out]; unfold rprmS; rw [if_neg (by rintro ⟨_, h⟩; rw [Int.toNat_natCast, htb] at h; cases h)]
            exact ⟨by rw [HEz.out.1]; rfl, F, by rw [hs]; exact HR.out.none_ hfr, Nx.refl _ _ _, hfr.none_up⟩
          · have hty' : ((t.1 : Int) == (y : Int)) = false := by simp; omega
            have HTy := Lib.hid hty
            clear hty
            go_wp2_with fail
            go_roundg (st.L.length - (i + 1))
            case measure => have := HI.out; omega
            case rel =>
              refine ⟨i + 1, by have := HI.out; omega, by go_num, ?_, hfr⟩
              rw [toldBit_take HTT.out, HNo.out]
              simpa using HTy.out
        · obtain rfl : i = st.L.length := by omega
          have htb : toldBit st.L y = false := by have := HNo.out; rwa [List.take_length] at this
          have hs : S' = { st with L := st.L ++ [(y, l)] } := by rw [HS.out]; unfold rprmS; rw [if_pos ⟨by rw [← HE.out]; exact HEz.out.1, by rw [Int.toNat_natCast]; exact htb⟩]; rfl
          have HSS := Lib.hid (And.intro hs htb)
          clear hs htb HI HNo hi' hil
          go_wp2_with fail
          clear c8
          obtain ⟨w3, hw3⟩ : ∃ w3, w3 = wr := ⟨_, rfl⟩
          rw [← hw3] at hfr ⊢
          clear hw3 wr
          go_loopg [12, 13] l.length (fun g x12 x13 wr => ∃ (j : Nat) (va : Option Addr) (vc : Nat) (vs : List Value), j + g = l.length ∧ x13 = .int .i64 j ∧ x12 = .slice va j vc ∧ Cop w3 wr (.slice va j vc) (l.take j) vs)
          case atStart => exact ⟨0, none, 0, [], by omega, rfl, rfl, Cop.nil _⟩
          case round =>
            obtain ⟨j, va, vc, vs, hj, rfl, rfl, hcop⟩ := hrel
            have HJ := Lib.hid hj
            have HCop := Lib.hid hcop
            have hj' : j ≤ l.length := by omega
            have hfrr := hfr.tr hcop.fr
            clear hj hcop
            by_cases hjl : j < l.length
            · obtain ⟨p, hp⟩ : ∃ p, l[j]? = some p := ⟨_, List.getElem?_eq_getElem hjl⟩
              obtain ⟨b, off, s, rfl, -, hat, -⟩ := HL.out j p hp
              have hpl := HB.out p (List.mem_of_getElem? hp)
              have hby := hat.by_.fr hfrr (fun _ _ h => h)
              have hbyw := hat.by_
              obtain ⟨sa, sc, rfl, -, -⟩ := hbyw
              have q0 := hfrr.cell hat.c0 (fun h => h)
              have q1 := hfrr.cell hat.c1 (fun h => h)
              have q2 := hfrr.cell hat.c2 (fun h => h)
              have q3 := hfrr.cell hat.c3 (fun h => h)
              have HP := Lib.hid hp
              obtain ⟨w4, hw4⟩ : ∃ w4, w4 = wr.alloc (.cells #[.int .u64 p.s, .int .u64 p.n, .int .i64 p.d, .slice sa p.v.length sc] 46) := ⟨_, rfl⟩
              have hf4 : Fr (fun _ => False) wr w4 := by rw [hw4]; exact (Fr.refl _ wr).alloc _
              obtain ⟨bv, hbv⟩ : ∃ b, b = wr.heap.size := ⟨_, rfl⟩
              have hV4 : Blk w4 bv 46 #[.int .u64 p.s, .int .u64 p.n, .int .i64 p.d, .slice sa p.v.length sc] := by rw [hw4, hbv]; exact Blk.new _ _ _
              have hby4 := hby.fr hf4 (fun _ _ h => h)
              have hC4 := HCop.out.up hf4
              have hbvne : ∀ k, (Value.slice va j vc).ownBlock = some k → k ≠ bv := fun k hk => by
                have := own_lt (own_base HCop.out.row) (k := k) hk
                omega
              have hbv3 : w3.heap.size ≤ bv := by rw [hbv]; exact HCop.out.fr.size
              have HW4 := Lib.hid hw4
              have HBV := Lib.hid hbv
              have HNe := Lib.hid (And.intro hbvne hbv3)
              clear hat hp hw4 hf4 hbv hby hbvne hbv3
              go_upto_region 21 with (fail)
              rw [← HW4.out, ← HBV.out]
              clear HW4 HBV q0 q1 q2 q3
              have v3 := hV4.cell 3 rfl
              go_wp2_with fail
              refine (lcopy_any _ p.v w4 hby4 (by omega)).mono ?_
              rintro e w5 ⟨va5, vc5, rfl, ho5, hf5⟩
              have hV5 := hV4.fr hf5 (fun h => h)
              have hC5 := hC4.up hf5
              have ho5 := own_up (base := w3.heap.size) (own_base ho5) (fun k hk => by have := (ho5.lt k hk).1; have := hC4.fr.size; omega)
              clear v3 hV4 hC4 hf5 hby4
              obtain ⟨w6, hw6⟩ : ∃ w6, w6 = w5.setCell ⟨bv, 3, none⟩ (.slice va5 p.v.length vc5) := ⟨_, rfl⟩
              have hV6 : Blk w6 bv 46 #[.int .u64 p.s, .int .u64 p.n, .int .i64 p.d, .slice va5 p.v.length vc5] := by rw [hw6]; simpa using hV5.set_ 3 (.slice va5 p.v.length vc5)
              have hC6 : Cop w3 w6 (.slice va j vc) (l.take j) vs := by rw [hw6]; exact hC5.put1 hV5 HNe.out.2 (by decide) HNe.out.1
              have ho6 : w6.ownsRow w3.heap.size 5 1 (.slice va5 p.v.length vc5) p.v.length (u8s p.v) := by
                rw [hw6]
                exact own_fr ho5 (Fr.set1 w5 bv 3 _) (fun k hk => own_blk_ne ho5 hV5 (by decide) k hk)
              have v3 := hV5.cell 3 rfl
              have f3 := hV5.frozen 3
              have HW6 := Lib.hid hw6
              clear hw6 hV5 hC5 ho5
              go_upto_region 22 with (fail)
              rw [← HW6.out]
              clear HW6 v3 f3
              have v0 := hV6.cell 0 rfl
              have v1 := hV6.cell 1 rfl
              have v2 := hV6.cell 2 rfl
              have v3 := hV6.cell 3 rfl
              obtain ⟨w7, hw7⟩ : ∃ w7, w7 = w6.alloc (.cells #[.int .u64 p.s, .int .u64 p.n, .int .i64 p.d, .slice va5 p.v.length vc5] 46) := ⟨_, rfl⟩
              have hf7 : Fr (fun _ => False) w6 w7 := by rw [hw7]; exact (Fr.refl _ w6).alloc _
              have hC7 := hC6.up hf7
              have ho7 := own_fr ho6 hf7 (fun _ _ h => h)
              have hn7 : ∀ i u, [Value.int .u64 p.s, .int .u64 p.n, .int .i64 p.d, .slice va5 p.v.length vc5][i]? = some u → w7.cell? (Addr.add ⟨w6.heap.size, 0, none⟩ i) = some u := by
                rw [hw7]; exact World.news_of_block (cs := #[.int .u64 p.s, .int .u64 p.n, .int .i64 p.d, .slice va5 p.v.length vc5]) (t := 46) (fr := (0, 0)) (heap_alloc_new w6 _)
              have hrow := hC7.row
              have htl : (l.take j).length = j := by simp; omega
              rw [htl] at hrow
              have hz7 := hC7.fr.size
              have HW7 := Lib.hid hw7
              have HC7 := Lib.hid (And.intro hC7 (And.intro ho7 htl))
              clear hw7 hf7 hC7 ho7 hC6 ho6 hV6 htl
              go_wp2_with (first
                | (at_builtin
                   rw [← HW7.out]
                   clear HW7
                   refine wpList_bi2 rfl .append _ _ _ _ _ rfl rfl rfl _ (ap_cells (base := w3.heap.size) Try.underlying51 hi0 hz0 hz1 hz2 rfl (by omega) hrow ⟨w6.heap.size, 0, none⟩ 1 1 [.int .u64 p.s, .int .u64 p.n, .int .i64 p.d, .slice va5 p.v.length vc5] rfl hn7 (by simp [Value.oneCell']) (by unfold maxLen; omega) (by omega) hz7) ?_
                   rintro v' w8 hap
                   obtain ⟨va8, vc8, rfl⟩ := own_sl4 hap.1))
              go_roundg (l.length - (j + 1))
              case measure => have := HJ.out; omega
              case rel =>
                obtain ⟨hC7, ho7, htl⟩ := HC7.out
                refine ⟨j + 1, va8, vc8, vs ++ [.slice va5 p.v.length vc5], by have := HJ.out; omega, by go_num, rfl, ?_⟩
                have := hC7.more ho7 (by rw [htl]; exact hap)
                rwa [show l.take j ++ [p] = l.take (j + 1) by rw [List.take_add_one, HP.out]; rfl] at this
            · obtain rfl : j = l.length := by omega
              have hC := HCop.out
              rw [List.take_length] at hC
              have hvn : ∀ p ∈ l, VtN p := fun p hp => by
                obtain ⟨i, hi⟩ := List.getElem?_of_mem hp
                obtain ⟨b, off, s, -, -, hat, -⟩ := HL.out i p hi
                exact ⟨hat.s64, hat.n64, hat.d0, hat.d1, hat.l⟩
              have hvl := hC.vtl hvn (by unfold maxLen; omega)
              have hX3 := HX.out.fr hfr (fun _ _ h => h)
              obtain ⟨w7, hw7⟩ : ∃ w7, w7 = wr.alloc (.cells #[.int .i64 (y : Int), .slice va l.length vc] 146) := ⟨_, rfl⟩
              have hf7 : Fr (fun _ => False) wr w7 := by rw [hw7]; exact (Fr.refl _ wr).alloc _
              have hf37 := hC.fr.tr hf7
              have hX7 := hX3.fr hf37 (fun _ _ h => h)
              have hvl7 : VtL w7 (.slice va l.length vc) l (fun k => k < w3.heap.size ∨ w7.heap.size ≤ k) := (hvl.up hf7 (fun _ h => h.elim)).mono (fun k hk => by
                have := hf7.size
                rcases hk with hk | hk
                · exact .inl hk
                · right; omega)
              have hn7 : ∀ i u, [Value.int .i64 (y : Int), .slice va l.length vc][i]? = some u → w7.cell? (Addr.add ⟨wr.heap.size, 0, none⟩ i) = some u := by
                rw [hw7]; exact World.news_of_block (cs := #[.int .i64 (y : Int), .slice va l.length vc]) (t := 146) (fr := (0, 0)) (heap_alloc_new wr _)
              have hrow := hX7.told
              have c8 := hfrr.cell HC8.out (fun h => h)
              have hyn : y < st.q.n.toNat := by omega
              have HFin := Lib.hid (And.intro hX3 (And.intro hX7 (And.intro hf37 (And.intro hvl7 (hfr.tr hf37)))))
              have HW7 := Lib.hid hw7
              clear hC hvn hvl hX3 hw7 hf7 hf37 hX7 hvl7 HCop
              go_wp2_with (first
                | (at_builtin
                   rw [← HW7.out]
                   clear HW7
                   refine wpList_bi2 rfl .append _ _ _ _ _ rfl rfl rfl _ (ap_cells (base := 0) Try.underlying133 hi1 hy0 hy1 hy2 rfl (by omega) hrow ⟨wr.heap.size, 0, none⟩ 1 1 [.int .i64 (y : Int), .slice va l.length vc] rfl hn7 (by simp [Value.oneCell']) (by unfold maxLen; omega) (by omega) (by omega)) ?_
                   rintro v' w8 hap
                   obtain ⟨va8, vc8, rfl⟩ := own_sl4 hap.1
                   have hB8 : Blk w8 r 136 _ := hap.blk HFin.out.2.1.blk (fun e => own_blk_ne hrow HFin.out.2.1.blk (by decide) r e rfl)
                   have b8 := hB8.cell 8 rfl
                   have f8 := hB8.frozen 8))
              go_ret
              obtain ⟨hX3, hX7, hf37, hvl7, hfw⟩ := HFin.out
              refine ⟨by rw [HEz.out.1]; rfl, More F w3 w8, ⟨sv, .slice va8 (st.L.length + 1) vc8, sl, ml, tv ++ [.slice va l.length vc], svs, ?_⟩, Nx.more hfr.size (by simp), (Fr.trans (X := F) hfw.none_up (app_fr hap 8 _) (fun j hj h => ?_))⟩
              · rw [HSS.out.1]
                exact hX3.putTold hf37 (y, l) hyn HSS.out.2 HEz.out.2 hvl7 hap
              · rcases h with h | h | h
                · exact h
                · rw [h]; exact HX.out.rF
                · exact HX.out.lvF j h
end Go.Proofs.Ytkpfgoalohbfeaa

