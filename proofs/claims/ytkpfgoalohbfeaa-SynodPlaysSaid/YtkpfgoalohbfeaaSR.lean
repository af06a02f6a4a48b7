/- play. -/
import Derived.Test.YtkpfgoalohbfeaaSM
import Derived.Test.YtkpfgoalohbfeaaSO
import Derived.Test.YtkpfgoalohbfeaaSQ
namespace Go.Proofs.Ytkpfgoalohbfeaa
open Go.RowKit

def tk0 (st : Sy) : Nat → Sy
  | 0 => st
  | k + 1 => takeS (tk0 st k) 0
/-- An act on a room alone. -/
def actS (st : Sy) (x : Ac) : Sy :=
  if x.k = 0 then startS st (atI x.a st.N) x.v
  else if x.k = 1 ∨ x.k = 2 ∨ x.k = 3 ∨ x.k = 4 then takeS st (atI x.a st.l.length)
  else if x.k = 5 then dropS st (atI x.a st.l.length)
  else if x.k = 6 then twicS st (atI x.a st.l.length)
  else if x.k = 7 then crashS st (atI x.a st.N)
  else tk0 st 60
theorem Fr.undrew {X : Nat → Prop} (w : World) : Fr X w.drew w := ⟨(Fr.refl X w).os, (Fr.refl X w).tape, (Fr.refl X w).output, (Fr.refl X w).size, (Fr.refl X w).block⟩
theorem BoolTo.void {w w' : World} {r nb c : Nat} {b : Bool} {st : Sy} {G F : Nat → Prop} {e : Ending} (h : BoolTo w r nb b st c G F e w') : ∃ v, e = .returned v ∧ RmTo w r nb st c G F w' := ⟨_, h.1, h.2⟩

set_option maxRecDepth 100000 in
set_option maxHeartbeats 16000000 in
theorem play_any (r nb : Nat) (st : Sy) (c : Nat) (G F : Nat → Prop) (x : Ac) (vs : Value) (w : World) (h : Rm w r nb st c G F) (hv : Byt w vs x.v) (hvX : ∀ k, vs.ownBlock = some k → x.v ≠ [] → ¬ G k) (hvl : x.v.length ≤ 1000) (hc : c + 200 < maxLen) :
    Calls Try.prog 13 #[.pointer (some ⟨r, 0, none⟩), .agg #[.int .i64 x.k, .int .i64 x.a, vs], .int .i64 (st.N : Int)] w (VoidTo w r nb (actS st x) (c + 120) G F) := by
  have hv0 := hv
  obtain ⟨va, vc, rfl, -, -⟩ := hv0
  obtain ⟨w1, hw1⟩ : ∃ w1, w1 = w.alloc (.cells #[.int .i64 x.k, .int .i64 x.a, .slice va x.v.length vc] 34) := ⟨_, rfl⟩
  have hf1 : Fr (fun _ => False) w w1 := by rw [hw1]; exact (Fr.refl _ w).alloc _
  obtain ⟨ba, hba⟩ : ∃ b, b = w.heap.size := ⟨_, rfl⟩
  have hB1 : Blk w1 ba 34 #[.int .i64 x.k, .int .i64 x.a, .slice va x.v.length vc] := by rw [hw1, hba]; exact Blk.new _ _ _
  have h1 := h.none_ hf1
  have hv1 := hv.fr hf1 (fun _ _ h => h)
  have hbG : ¬ G ba := fun hg => by have := h.lt ba (h.GF ba hg); omega
  have HW1 := Lib.hid (And.intro hw1 hba)
  have hN12 := h.wf.n12.2.1
  have hlen := h.wf.len
  have h1d := h1.none_ (Fr.refl (fun _ => False) w1).drew
  have hv1d := hv1.fr (Fr.refl (fun _ => False) w1).drew (fun _ _ h => h)
  have HH := Lib.hid (And.intro h1d (And.intro hv1d (And.intro hvX hf1)))
  have hfin : ∀ st' c' w', c' ≤ c + 120 → actS st x = st' → RmTo w1 r nb st' c' G F w' → RmTo w r nb (actS st x) (c + 120) G F w' := fun st' c' w' hc' he hT => by
    rw [he]; exact (hT.monoC hc').of0 hf1
  have HF := Lib.hid hfin
  have q0 := hB1.cell 0 rfl
  have q1 := hB1.cell 1 rfl
  have q2 := hB1.cell 2 rfl
  clear hw1 hba h h1 hv hv1 hvX hf1 hfin h1d hv1d hB1
  go_enter Try.func13, Try.ntmps13
  go_upto_region 1 with (fail)
  rw [← HW1.out.1, ← HW1.out.2]
  clear HW1
  by_cases k0 : x.k = 0
  · have k0' : (x.k == 0) = true := by simp [k0]
    have HE := Lib.hid (show actS st x = startS st (atI x.a st.N) x.v by unfold actS; rw [if_pos k0])
    have HS := Lib.hid (start_any r nb st c G F (atI x.a st.N) (.slice va x.v.length vc) x.v w1.drew HH.out.1 HH.out.2.1 HH.out.2.2.1 hvl)
    go_upto_region 7 with (fail)
    go_region_held3 (fun wx => wx.cell? ⟨ba, 1, none⟩ = some (.int .i64 x.a) ∧ wx.cell? ⟨ba, 2, none⟩ = some (.slice va x.v.length vc)) (first | exact ⟨q1, q2⟩ | exact hS4)
      (first
        | (go_at_call 16
           refine (at_any x.a st.N (by omega) _).mono ?_
           rintro e w2 ⟨rfl, rfl⟩
           have hS4 := And.intro q1 q2)
        | (go_at_call 22
           refine HS.out.mono ?_
           rintro e w2 ⟨rfl, hT⟩
           have hT2 := hT
           obtain ⟨G2, F2, hR2, -, -, hfr2⟩ := hT2
           have hS4 := And.intro (hfr2.cell q1 hbG) (hfr2.cell q2 hbG)
           have HT := Lib.hid hT
           clear hT hR2 hfr2))
    all_goals
      refine bodyPost_end (results_none rfl _ _ _) rfl ⟨rfl, HF.out _ _ _ (by omega) HE.out (HT.out.of0 (Fr.refl _ w1).drew)⟩
  have k0' : (x.k == 0) = false := by simp [k0]
  by_cases k1 : x.k = 1
  · have k1' : (x.k == 1) = true := by simp [k1]
    have HE := Lib.hid (show actS st x = takeS st (atI x.a st.l.length) by unfold actS; rw [if_neg k0, if_pos (by simp [k1])])
    have HS := Lib.hid (take_any r nb st c G F (atI x.a st.l.length) w1.drew HH.out.1 (by omega))
    have HL := Lib.hid (len_any r nb st c G F w1.drew HH.out.1)
    go_upto_region 12 with (fail)
    go_region_held3 (fun wx => wx.cell? ⟨ba, 1, none⟩ = some (.int .i64 x.a)) (first | exact q1 | exact hS4)
      (first
        | (go_at_call 20
           refine HL.out.mono ?_
           rintro e w2 ⟨rfl, rfl⟩
           have hS4 := q1)
        | (go_at_call 16
           refine (at_any x.a st.l.length (by omega) _).mono ?_
           rintro e w2 ⟨rfl, rfl⟩
           have hS4 := q1)
        | (go_at_call 23
           refine HS.out.mono ?_
           rintro e w2 ⟨rfl, hT⟩
           have hT2 := hT
           obtain ⟨G2, F2, hR2, -, -, hfr2⟩ := hT2
           have hS4 := hfr2.cell q1 hbG
           have HT := Lib.hid hT
           clear hT hR2 hfr2))
    all_goals
      refine bodyPost_end (results_none rfl _ _ _) rfl ⟨rfl, HF.out _ _ _ (by omega) HE.out (HT.out.of0 (Fr.refl _ w1).drew)⟩
  have k1' : (x.k == 1) = false := by simp [k1]
  by_cases k2 : x.k = 2
  · have k2' : (x.k == 2) = true := by simp [k2]
    have HE := Lib.hid (show actS st x = takeS st (atI x.a st.l.length) by unfold actS; rw [if_neg k0, if_pos (by simp [k2])])
    have HS := Lib.hid (take_any r nb st c G F (atI x.a st.l.length) w1.drew HH.out.1 (by omega))
    have HL := Lib.hid (len_any r nb st c G F w1.drew HH.out.1)
    go_upto_region 12 with (fail)
    go_region_held3 (fun wx => wx.cell? ⟨ba, 1, none⟩ = some (.int .i64 x.a)) (first | exact q1 | exact hS4)
      (first
        | (go_at_call 20
           refine HL.out.mono ?_
           rintro e w2 ⟨rfl, rfl⟩
           have hS4 := q1)
        | (go_at_call 16
           refine (at_any x.a st.l.length (by omega) _).mono ?_
           rintro e w2 ⟨rfl, rfl⟩
           have hS4 := q1)
        | (go_at_call 23
           refine HS.out.mono ?_
           rintro e w2 ⟨rfl, hT⟩
           have hT2 := hT
           obtain ⟨G2, F2, hR2, -, -, hfr2⟩ := hT2
           have hS4 := hfr2.cell q1 hbG
           have HT := Lib.hid hT
           clear hT hR2 hfr2))
    all_goals
      refine bodyPost_end (results_none rfl _ _ _) rfl ⟨rfl, HF.out _ _ _ (by omega) HE.out (HT.out.of0 (Fr.refl _ w1).drew)⟩
  have k2' : (x.k == 2) = false := by simp [k2]
  by_cases k3 : x.k = 3
  · have k3' : (x.k == 3) = true := by simp [k3]
    have HE := Lib.hid (show actS st x = takeS st (atI x.a st.l.length) by unfold actS; rw [if_neg k0, if_pos (by simp [k3])])
    have HS := Lib.hid (take_any r nb st c G F (atI x.a st.l.length) w1.drew HH.out.1 (by omega))
    have HL := Lib.hid (len_any r nb st c G F w1.drew HH.out.1)
    go_upto_region 12 with (fail)
    go_region_held3 (fun wx => wx.cell? ⟨ba, 1, none⟩ = some (.int .i64 x.a)) (first | exact q1 | exact hS4)
      (first
        | (go_at_call 20
           refine HL.out.mono ?_
           rintro e w2 ⟨rfl, rfl⟩
           have hS4 := q1)
        | (go_at_call 16
           refine (at_any x.a st.l.length (by omega) _).mono ?_
           rintro e w2 ⟨rfl, rfl⟩
           have hS4 := q1)
        | (go_at_call 23
           refine HS.out.mono ?_
           rintro e w2 ⟨rfl, hT⟩
           have hT2 := hT
           obtain ⟨G2, F2, hR2, -, -, hfr2⟩ := hT2
           have hS4 := hfr2.cell q1 hbG
           have HT := Lib.hid hT
           clear hT hR2 hfr2))
    all_goals
      refine bodyPost_end (results_none rfl _ _ _) rfl ⟨rfl, HF.out _ _ _ (by omega) HE.out (HT.out.of0 (Fr.refl _ w1).drew)⟩
  have k3' : (x.k == 3) = false := by simp [k3]
  by_cases k4 : x.k = 4
  · have k4' : (x.k == 4) = true := by simp [k4]
    have HE := Lib.hid (show actS st x = takeS st (atI x.a st.l.length) by unfold actS; rw [if_neg k0, if_pos (by simp [k4])])
    have HS := Lib.hid (take_any r nb st c G F (atI x.a st.l.length) w1.drew HH.out.1 (by omega))
    have HL := Lib.hid (len_any r nb st c G F w1.drew HH.out.1)
    go_upto_region 12 with (fail)
    go_region_held3 (fun wx => wx.cell? ⟨ba, 1, none⟩ = some (.int .i64 x.a)) (first | exact q1 | exact hS4)
      (first
        | (go_at_call 20
           refine HL.out.mono ?_
           rintro e w2 ⟨rfl, rfl⟩
           have hS4 := q1)
        | (go_at_call 16
           refine (at_any x.a st.l.length (by omega) _).mono ?_
           rintro e w2 ⟨rfl, rfl⟩
           have hS4 := q1)
        | (go_at_call 23
           refine HS.out.mono ?_
           rintro e w2 ⟨rfl, hT⟩
           have hT2 := hT
           obtain ⟨G2, F2, hR2, -, -, hfr2⟩ := hT2
           have hS4 := hfr2.cell q1 hbG
           have HT := Lib.hid hT
           clear hT hR2 hfr2))
    all_goals
      refine bodyPost_end (results_none rfl _ _ _) rfl ⟨rfl, HF.out _ _ _ (by omega) HE.out (HT.out.of0 (Fr.refl _ w1).drew)⟩
  have k4' : (x.k == 4) = false := by simp [k4]
  by_cases k5 : x.k = 5
  · have k5' : (x.k == 5) = true := by simp [k5]
    have HE := Lib.hid (show actS st x = dropS st (atI x.a st.l.length) by unfold actS; rw [if_neg k0, if_neg (by simp [k1, k2, k3, k4]), if_pos k5])
    have HS := Lib.hid (drop_any r nb st c G F (atI x.a st.l.length) w1.drew HH.out.1)
    have HL := Lib.hid (len_any r nb st c G F w1.drew HH.out.1)
    go_upto_region 14 with (fail)
    go_region_held3 (fun wx => wx.cell? ⟨ba, 1, none⟩ = some (.int .i64 x.a)) (first | exact q1 | exact hS4)
      (first
        | (go_at_call 20
           refine HL.out.mono ?_
           rintro e w2 ⟨rfl, rfl⟩
           have hS4 := q1)
        | (go_at_call 16
           refine (at_any x.a st.l.length (by omega) _).mono ?_
           rintro e w2 ⟨rfl, rfl⟩
           have hS4 := q1)
        | (go_at_call 21
           refine HS.out.mono ?_
           rintro e w2 ⟨rfl, hT⟩
           have hT2 := hT
           obtain ⟨G2, F2, hR2, -, -, hfr2⟩ := hT2
           have hS4 := hfr2.cell q1 hbG
           have HT := Lib.hid hT
           clear hT hR2 hfr2))
    all_goals
      refine bodyPost_end (results_none rfl _ _ _) rfl ⟨rfl, HF.out _ _ _ (by omega) HE.out (HT.out.of0 (Fr.refl _ w1).drew)⟩
  have k5' : (x.k == 5) = false := by simp [k5]
  by_cases k6 : x.k = 6
  · have k6' : (x.k == 6) = true := by simp [k6]
    have HE := Lib.hid (show actS st x = twicS st (atI x.a st.l.length) by unfold actS; rw [if_neg k0, if_neg (by simp [k1, k2, k3, k4]), if_neg k5, if_pos k6])
    have HS := Lib.hid (twice_any r nb st c G F (atI x.a st.l.length) w1.drew HH.out.1)
    have HL := Lib.hid (len_any r nb st c G F w1.drew HH.out.1)
    go_upto_region 16 with (fail)
    go_region_held3 (fun wx => wx.cell? ⟨ba, 1, none⟩ = some (.int .i64 x.a)) (first | exact q1 | exact hS4)
      (first
        | (go_at_call 20
           refine HL.out.mono ?_
           rintro e w2 ⟨rfl, rfl⟩
           have hS4 := q1)
        | (go_at_call 16
           refine (at_any x.a st.l.length (by omega) _).mono ?_
           rintro e w2 ⟨rfl, rfl⟩
           have hS4 := q1)
        | (go_at_call 32
           refine HS.out.mono ?_
           rintro e w2 ⟨rfl, hT⟩
           have hT2 := hT
           obtain ⟨G2, F2, hR2, -, -, hfr2⟩ := hT2
           have hS4 := hfr2.cell q1 hbG
           have HT := Lib.hid hT
           clear hT hR2 hfr2))
    all_goals
      refine bodyPost_end (results_none rfl _ _ _) rfl ⟨rfl, HF.out _ _ _ (by omega) HE.out (HT.out.of0 (Fr.refl _ w1).drew)⟩
  have k6' : (x.k == 6) = false := by simp [k6]
  by_cases k7 : x.k = 7
  · have k7' : (x.k == 7) = true := by simp [k7]
    have HE := Lib.hid (show actS st x = crashS st (atI x.a st.N) by unfold actS; rw [if_neg k0, if_neg (by simp [k1, k2, k3, k4]), if_neg k5, if_neg k6, if_pos k7])
    go_wp2_with fail
    refine (at_any x.a st.N (by omega) _).mono ?_
    rintro e w2 ⟨rfl, rfl⟩
    go_wp2_with fail
    refine (crash_any r nb st c G F (atI x.a st.N) w1 (HH.out.1.none_ (Fr.undrew _))).mono ?_
    rintro e w2 ⟨rfl, hT⟩
    have HT := Lib.hid hT
    clear hT q0 q1 q2
    go_wp2_with fail
    all_goals
      refine bodyPost_end (results_none rfl _ _ _) rfl ⟨rfl, HF.out _ _ _ (by omega) HE.out HT.out⟩
  have k7' : (x.k == 7) = false := by simp [k7]
  have HE := Lib.hid (show actS st x = tk0 st 60 by unfold actS; rw [if_neg k0, if_neg (by simp [k1, k2, k3, k4]), if_neg k5, if_neg k6, if_neg k7])
  have H0 := Lib.hid (HH.out.1.none_ (Fr.undrew w1))
  go_wp2_with fail
  go_loopg [6] 60 (fun g x6 wr => ∃ (j : Nat), j + g = 60 ∧ x6 = .int .i64 j ∧ RmTo w1 r nb (tk0 st j) (c + 2 * j) G F wr)
  case atStart => exact ⟨0, by omega, rfl, RmTo.refl H0.out (Fr.refl _ _)⟩
  case round =>
    obtain ⟨j, hj, rfl, G2, F2, hR2, hnG, hnF, hfr⟩ := hrel
    have HJ := Lib.hid hj
    have hj' : j ≤ 60 := by omega
    have HR2 := Lib.hid (And.intro hR2 (And.intro hnG (And.intro hnF hfr)))
    clear hj hR2 hnG hnF hfr
    by_cases hjN : j < 60
    · have hjN' : (j : Int) < 60 := by omega
      go_wp2_with fail
      refine (take_any r nb (tk0 st j) (c + 2 * j) G2 F2 0 wr HR2.out.1 (by omega)).mono ?_
      rintro e w3 ⟨rfl, hT⟩
      have HT := Lib.hid hT
      clear hT
      go_wp2_with fail
      go_roundg (60 - (j + 1))
      case measure => have := HJ.out; omega
      case rel => exact ⟨j + 1, by have := HJ.out; omega, by go_num, (HT.out.of HR2.out.2.2.2 HR2.out.2.1 HR2.out.2.2.1).monoC (by omega)⟩
    · obtain rfl : j = 60 := by omega
      go_wp2_with fail
      refine bodyPost_end (results_none rfl _ _ _) rfl ⟨rfl, HF.out _ _ _ (by omega) HE.out ⟨G2, F2, HR2.out⟩⟩
end Go.Proofs.Ytkpfgoalohbfeaa
