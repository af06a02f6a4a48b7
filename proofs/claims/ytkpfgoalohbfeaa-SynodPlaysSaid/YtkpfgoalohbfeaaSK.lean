/- Take, Drop, Twice. -/
import Derived.Test.YtkpfgoalohbfeaaSJ
namespace Go.Proofs.Ytkpfgoalohbfeaa
open Go.RowKit

theorem atL_some {st : Sy} {a : Int} (h : thereB st a = true) : ∃ m, st.atL a = some m ∧ st.l[a.toNat]? = some m ∧ a = (a.toNat : Int) := by
  unfold thereB at h
  cases hm : st.atL a with
  | none => rw [hm] at h; cases h
  | some m =>
    refine ⟨m, rfl, ?_⟩
    unfold Sy.atL at hm
    split at hm
    · exact ⟨hm, by omega⟩
    · cases hm
theorem atL_none {st : Sy} {a : Int} (h : thereB st a = false) : st.atL a = none := by
  unfold thereB at h
  cases hm : st.atL a with
  | none => rfl
  | some m => rw [hm] at h; cases h
def BoolTo (w : World) (r nb : Nat) (b : Bool) (st' : Sy) (c' : Nat) (G F : Nat → Prop) (e : Ending) (w' : World) : Prop := e = .returned (.bool b) ∧ RmTo w r nb st' c' G F w'

set_option maxRecDepth 100000 in
set_option maxHeartbeats 8000000 in
theorem drop_any (r nb : Nat) (st : Sy) (c : Nat) (G F : Nat → Prop) (a : Int) (w : World) (h : Rm w r nb st c G F) :
    Calls Try.prog 21 #[.pointer (some ⟨r, 0, none⟩), .int .i64 a] w (BoolTo w r nb (thereB st a) (dropS st a) c G F) := by
  have H := Lib.hid h
  have HT := Lib.hid (there_any r nb st c G F a w h)
  clear h
  cases ht : thereB st a with
  | false =>
    have hn := atL_none ht
    have HN := Lib.hid (And.intro ht hn)
    clear ht hn
    go_enter Try.func21, Try.ntmps21
    go_wp2_with fail
    refine HT.out.mono ?_
    rintro e w2 ⟨rfl, rfl⟩
    rw [HN.out.1]
    go_wp2_with fail
    go_ret
    refine ⟨rfl, ?_⟩
    unfold dropS
    rw [HN.out.2]
    exact RmTo.refl H.out (Fr.refl _ _)
  | true =>
    obtain ⟨m, h1, h2, h3⟩ := atL_some ht
    have hc := cut_any r nb st c G F a.toNat m w H.out h2
    rw [← h3] at hc
    have HC := Lib.hid hc
    have HN := Lib.hid (And.intro ht h1)
    clear ht h1 h2 h3 hc
    go_enter Try.func21, Try.ntmps21
    go_wp2_with fail
    refine HT.out.mono ?_
    rintro e w2 ⟨rfl, rfl⟩
    rw [HN.out.1]
    go_wp2_with fail
    refine HC.out.mono ?_
    rintro e w3 ⟨v, G', F', rfl, hT⟩
    have HT2 := Lib.hid hT
    clear hT
    go_wp2_with fail
    go_ret
    refine ⟨rfl, ?_⟩
    unfold dropS
    rw [HN.out.2]
    exact ⟨G', F', HT2.out.1, HT2.out.2.1, HT2.out.2.2.1, HT2.out.2.2.2.1⟩

set_option maxRecDepth 100000 in
set_option maxHeartbeats 8000000 in
theorem twice_any (r nb : Nat) (st : Sy) (c : Nat) (G F : Nat → Prop) (a : Int) (w : World) (h : Rm w r nb st c G F) :
    Calls Try.prog 32 #[.pointer (some ⟨r, 0, none⟩), .int .i64 a] w (BoolTo w r nb (twicB st a) (twicS st a) c G F) := by
  have H := Lib.hid h
  have HT := Lib.hid (there_any r nb st c G F a w h)
  cases ht : thereB st a with
  | false =>
    have hn := atL_none ht
    have HN := Lib.hid (And.intro ht hn)
    clear ht hn h
    go_enter Try.func32, Try.ntmps32
    go_wp2_with fail
    refine HT.out.mono ?_
    rintro e w2 ⟨rfl, rfl⟩
    rw [HN.out.1]
    go_wp2_with fail
    go_ret
    refine ⟨by unfold twicB; rw [HN.out.2]; rfl, ?_⟩
    unfold twicS
    rw [HN.out.2]
    exact RmTo.refl H.out (Fr.refl _ _)
  | true =>
    obtain ⟨m, h1, h2, h3⟩ := atL_some ht
    have hx := h
    obtain ⟨sv, lv, cs, nv, mv, Gp, h⟩ := h
    have hal : a.toNat < st.l.length := (List.getElem?_eq_some_iff.1 h2).1
    obtain ⟨v, hv⟩ : ∃ v, mv[a.toNat]? = some v := ⟨_, List.getElem?_eq_getElem (by rw [h.mlen]; exact hal)⟩
    have hvl := h.lval a.toNat m v h2 hv
    have hm := h.wf.lt m (List.mem_of_getElem? h2)
    obtain ⟨g, lc, cur, hlv, -, hgB, hlc, hlcm, hcs, htk⟩ : ∃ g cap cur, lv = .slice (some ⟨g, 0, none⟩) st.l.length cap ∧ 0 ≤ g ∧ Blk w g 68 cur ∧ st.l.length ≤ cap ∧ cap ≤ maxLen ∧ cur.size = cap * 6 ∧ cur.toList.take (st.l.length * 6) = flatM st.l mv := by
      rcases own_form h.lrow with ⟨_, h0, _⟩ | h1
      · omega
      · exact h1
    subst hlv
    have r6 : w.cell? ⟨r, 6, none⟩ = some (.slice (some ⟨g, 0, none⟩) st.l.length lc) := h.blk.cell 6 rfl
    obtain ⟨q0, q1, q2, q3, q4, q5⟩ := flatM_get st.l mv a.toNat m _ h2 hv
    have l0 := own_cell h.lrow _ q0
    have l1 := own_cell h.lrow _ q1
    have l2 := own_cell h.lrow _ q2
    have l3 := own_cell h.lrow _ q3
    have l4 := own_cell h.lrow _ q4
    have l5 := own_cell h.lrow _ q5
    have hl2 := h.wf.len
    have hs := send_any r nb st c G F _ m v w hx hm hvl
    have HS := Lib.hid hs
    have HN := Lib.hid (And.intro ht h1)
    have ha0 : 0 ≤ a := by omega
    have ha1 : a < (st.l.length : Int) := by omega
    clear ht h1 h2 h3 hs h hx hvl hm hgB hcs htk q0 q1 q2 q3 q4 q5 hlc hlcm hv
    by_cases hlt : st.l.length < 200
    · have hlt' : ¬ (200 : Int) ≤ (st.l.length : Int) := by omega
      go_enter Try.func32, Try.ntmps32
      go_wp2_with fail
      refine HT.out.mono ?_
      rintro e w2 ⟨rfl, rfl⟩
      rw [HN.out.1]
      go_wp2_with fail
      refine HS.out.mono ?_
      rintro e w3 ⟨rfl, hT⟩
      have HT2 := Lib.hid hT
      clear hT r6 l0 l1 l2 l3 l4 l5
      go_wp2_with fail
      go_ret
      refine ⟨by unfold twicB; rw [HN.out.2]; simp [hlt], ?_⟩
      unfold twicS
      rw [HN.out.2]
      exact HT2.out
    · have hlt' : (200 : Int) ≤ (st.l.length : Int) := by omega
      go_enter Try.func32, Try.ntmps32
      go_wp2_with fail
      refine HT.out.mono ?_
      rintro e w2 ⟨rfl, rfl⟩
      rw [HN.out.1]
      go_wp2_with fail
      go_ret
      refine ⟨by unfold twicB; rw [HN.out.2]; simp [hlt], ?_⟩
      unfold twicS
      rw [HN.out.2]
      show RmTo w r nb (sendS st m) c G F w
      unfold sendS
      rw [if_neg hlt]
      exact RmTo.refl H.out (Fr.refl _ _)

end Go.Proofs.Ytkpfgoalohbfeaa
