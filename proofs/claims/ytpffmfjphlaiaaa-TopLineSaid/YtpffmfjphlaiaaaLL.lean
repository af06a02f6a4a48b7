/- sess.Sender: hear. -/
import Derived.Test.YtpffmfjphlaiaaaLJ
namespace Go.Proofs.Ytpffmfjphlaiaaa
open Go.RowKit

/-- A new row of pieces. -/
structure PcNew1 (w5 w' : World) (sb gg lc' : Nat) (S' : List Nat) (vs' : List Value) (old : Value) : Prop where
  row : w'.ownsRow 0 79 2 (.slice (some ⟨gg, 0, none⟩) S'.length lc') S'.length (flat2 S' vs')
  new : w5.heap.size ≤ gg
  fr : Fr (fun _ => False) w5 w'
  c5 : w'.cell? ⟨sb, 5, none⟩ = some old
  cf : ∀ i, w'.frozen? ⟨sb, i, none⟩ = false
def PcNew (w5 w' : World) (sb : Nat) (v' : Value) (S' : List Nat) (vs' : List Value) (old : Value) : Prop :=
  ∃ gg lc', v' = .slice (some ⟨gg, 0, none⟩) S'.length lc' ∧ PcNew1 w5 w' sb gg lc' S' vs' old
theorem pc_append {w w5 : World} {sb acked now win span g c k : Nat} {S : List Nat} {vs : List Value} {bd : Nat → List UInt8} {col : Nat → Nat}
    (hB : Blk w sb 74 #[.int .u64 3, .int .i64 (win : Int), .int .i64 (span : Int), .int .u64 (acked : Int), .int .i64 (now : Int), .slice (some ⟨g, 0, none⟩) S.length c]) (hP : Pieces w (.slice (some ⟨g, 0, none⟩) S.length c) acked S vs bd col)
    (hf : Fr (fun _ => False) w w5) (hk : k ≤ S.length) (hro : S.length ≤ 100) (ty : TypeId) (off cc : Nat) (ho : off = k * 2 ∨ k = S.length) (consts : Array Bool) :
    ∃ v' w', (builtin .append #[72, 72] ty consts #[.slice (some ⟨w5.heap.size, 0, none⟩) 0 0, .slice (some ⟨g, off, none⟩) (S.length - k) cc]).run Try.prog (w5.alloc (Obj.cells #[] 79)).drew = .ok (.value v') w' ∧ PcNew w5 w' sb v' (S.drop k) (vs.drop k) (.slice (some ⟨g, 0, none⟩) S.length c) := by
  obtain ⟨i0, hi0, hz0, hz1, hz2⟩ := info_parts pcinfo
  have hown0 : (w5.alloc (Obj.cells #[] 79)).drew.ownsRow 0 79 2 (.slice (some ⟨w5.heap.size, 0, none⟩) 0 0) 0 [] := by
    have h1 : (w5.alloc (Obj.cells #[] 79)).ownsRow 0 79 2 (.slice (some ⟨w5.heap.size, 0, none⟩) 0 0) 0 [] := by
      have := World.ownsRow_lit (base := 0) (e := 79) (size := 2) w5 #[] 0 (by simp) (by simp [maxLen]) rfl
      simpa using this
    exact h1
  have hlv : vs.length = S.length := hP.len
  have hdrop : (flat2 S vs).drop (k * 2) = flat2 (S.drop k) (vs.drop k) := flat2_drop S vs k hlv
  have hl : (flat2 (S.drop k) (vs.drop k)).length = (S.length - k) * 2 := by
    rw [flat2_length _ _ (by simp [hlv]), List.length_drop]
  have hrow5 := own_fr hP.row hf (fun _ _ h => h)
  have hfd : Fr (fun _ => False) w5 (w5.alloc (Obj.cells #[] 79)).drew := ((Fr.refl _ w5).alloc _).drew
  have hnews : ∀ i u, (flat2 (S.drop k) (vs.drop k))[i]? = some u → (w5.alloc (Obj.cells #[] 79)).drew.cell? ((⟨g, off, none⟩ : Addr).add i) = some u := fun i u hu => by
    rcases ho with rfl | h
    · rw [add_none]
      rw [← hdrop, List.getElem?_drop] at hu
      exact hfd.cell (own_cell hrow5 (k * 2 + i) hu) (fun h => h)
    · have : (flat2 (S.drop k) (vs.drop k)).length = 0 := by rw [hl, h]; omega
      rw [List.eq_nil_of_length_eq_zero this] at hu
      simp at hu
  have hone : ∀ u ∈ flat2 (S.drop k) (vs.drop k), u.oneCell' = true := flat2_one _ _ (fun v hv => by
    obtain ⟨i, hi⟩ := List.getElem?_of_mem (List.mem_of_mem_drop hv)
    obtain ⟨A, c', rfl, -⟩ := (hP.body i v hi).1
    rfl)
  obtain ⟨v', w', hrun, hap⟩ := ap_cells (P := Try.prog) (ty := ty) (base := 0) Try.underlying72 hi0 hz0 hz1 hz2 rfl (by omega) hown0 ⟨g, off, none⟩ (S.length - k) cc _ hl hnews hone (by simp only [maxLen]; omega) (by omega) (by omega) consts
  obtain ⟨gg, lc', rfl, hgg⟩ := hap.form rfl
  have hf' : Fr (fun _ => False) w5 w' := hap.fr hfd (fun j hj hlt => by simp only [Value.ownBlock] at hj; injection hj with hj; omega)
  have hge : w5.heap.size ≤ gg := by
    rcases hgg with rfl | rfl
    · exact Nat.le_refl _
    · have := hfd.size; exact this
  have hrow := hap.1
  simp only [Nat.zero_add, List.nil_append] at hrow
  have hls : (S.drop k).length = S.length - k := List.length_drop
  rw [← hls] at hrow hrun
  have hB' := (hB.fr hf (fun h => h)).fr hf' (fun h => h)
  refine ⟨_, w', ?_, gg, lc', rfl, hrow, hge, hf', hB'.cell 5 rfl, hB'.frozen⟩
  rw [Nat.zero_add] at hrun
  rw [← hls]
  exact hrun
theorem wr_sub {q a k : Nat} (hk : k = q - a) (h : a < q) (hq : q < 2000000) : IntKind.u64.wrap ((q : Int) - (a : Int)) = (k : Int) := by
  rw [IntKind.wrap_u64]; omega

set_option maxRecDepth 100000 in
set_option maxHeartbeats 8000000 in
theorem shear_any (sb acked now : Nat) (S : List Nat) (bd : Nat → List UInt8) (win span : Nat) (col : Nat → Nat) (q : Nat) (sA : Option Addr) (sc : Nat) (w : World) (h : SndR w sb acked now S bd win span col) (hc : Cap w col) (hq : q ≤ acked + S.length) (hack : acked < 1000000) :
    Calls Try.prog 27 #[.pointer (some ⟨sb, 0, none⟩), .agg #[.int .u64 3, .int .u64 (q : Int), .bool true, .slice sA 0 sc]] w fun e w' => e = .returned (.int .i64 0) ∧ ∃ col', SndR w' sb (max acked q) now (S.drop (q - acked)) bd win span col' ∧ Recol 1 w w' col col' := by
  obtain ⟨⟨lv, vs, hB, hP⟩, ho, hle, hro⟩ := h
  obtain ⟨A, c, rfl, hA, hcap, hcm⟩ := hP.form
  have hsb := hB.lt
  obtain ⟨w1, hw1⟩ : ∃ w1, w1 = w.alloc (.cells #[.int .u64 3, .int .u64 (q : Int), .bool true, .slice sA 0 sc] 60) := ⟨_, rfl⟩
  have hf1 : Fr (fun _ => False) w w1 := by rw [hw1]; exact (Fr.refl _ w).alloc _
  have hS1 : Blk w1 w.heap.size 60 #[.int .u64 3, .int .u64 (q : Int), .bool true, .slice sA 0 sc] := by rw [hw1]; exact Blk.new _ _ _
  have hright := right_yes 3 q true sA 0 sc w1 rfl
  have HK : Hid (∀ wx, Fr (fun _ => False) w1 wx → wx.cell? ⟨w.heap.size, 0, none⟩ = some (.int .u64 3) ∧ wx.cell? ⟨w.heap.size, 1, none⟩ = some (.int .u64 (q : Int)) ∧ wx.cell? ⟨w.heap.size, 2, none⟩ = some (.bool true) ∧ wx.cell? ⟨w.heap.size, 3, none⟩ = some (.slice sA 0 sc) ∧
      wx.cell? ⟨sb, 0, none⟩ = some (.int .u64 3) ∧ wx.cell? ⟨sb, 3, none⟩ = some (.int .u64 (acked : Int)) ∧ wx.cell? ⟨sb, 5, none⟩ = some (.slice A S.length c)) := Lib.hid fun wx hf => by
    have b := hS1.fr hf (fun h => h)
    have d := (hB.fr hf1 (fun h => h)).fr hf (fun h => h)
    exact ⟨b.cell 0 rfl, b.cell 1 rfl, b.cell 2 rfl, b.cell 3 rfl, d.cell 0 rfl, d.cell 3 rfl, d.cell 5 rfl⟩
  obtain ⟨c0, c1, c2, c3, -, -, -⟩ := HK.out w1 (Fr.refl _ _)
  have HH := Lib.hid (And.intro hB (And.intro hP (And.intro ho (And.intro hle (And.intro hf1 (And.intro hA hright))))))
  have HW := Lib.hid hw1
  have hSl : (S.length : Int) < 1000 := by omega
  have hal : (acked : Int) < 1000000 := by omega
  clear hB hP ho hle hw1 hf1 hS1 hright hA
  go_enter Try.func27, Try.ntmps27
  go_upto_region 1 with (fail)
  rw [← HW.out]
  go_wp2_with fail
  refine HH.out.2.2.2.2.2.2.mono ?_
  rintro e w2 ⟨rfl, hf2⟩
  clear c0 c1 c2 c3
  obtain ⟨c0, c1, c2, c3, d0, d3, d5⟩ := HK.out w2 hf2
  have HF2 := Lib.hid hf2
  clear hf2
  go_upto_region 7 with (fail)
  go_cut [16] (fun x16 wx => x16 = .bool false ∧ ∃ nq, wx = w2.drewN nq)
  case first =>
    go_quiet (fail)
    go_wp2_with fail
    go_meet
    exact ⟨rfl, _, rfl⟩
  case rest =>
    obtain ⟨rfl, nq, hw3⟩ := hcut
    obtain ⟨w3, hw3'⟩ : ∃ w3, w3 = wc := ⟨_, rfl⟩
    have hf3 : Fr (fun _ => False) w1 w3 := by rw [hw3', hw3]; exact HF2.out.drewN _
    rw [← hw3']
    clear hw3 hw3' c0 c1 c2 c3 d0 d3 d5
    obtain ⟨c0, c1, c2, c3, d0, d3, d5⟩ := HK.out w3 hf3
    have HF3 := Lib.hid hf3
    clear hf3
    go_upto_region 9 with (fail)
    go_cut [24] (fun x24 wx => x24 = .bool false ∧ ∃ nq, wx = w3.drewN nq)
    case first =>
      by_cases hqa : acked < q
      · have e1 : (acked : Int) < (q : Int) := by omega
        have e2 : decide ((acked : Int) < (q : Int)) = true := by simp [hqa]
        have e3 : ¬ (S.length : Int) < (q : Int) - (acked : Int) := by omega
        have e4 : decide ((S.length : Int) < (q : Int) - (acked : Int)) = false := by simpa using e3
        go_quiet (fail)
        go_wp2_with fail
        go_meet
        refine ⟨?_, _, rfl⟩
        first | rfl | exact congrArg Value.bool e4
      · have e2 : decide ((acked : Int) < (q : Int)) = false := by simp; omega
        go_quiet (fail)
        go_wp2_with fail
        go_meet
        exact ⟨rfl, _, rfl⟩
    case rest =>
      obtain ⟨rfl, nq3, hw4⟩ := hcut
      obtain ⟨w4, hw4'⟩ : ∃ w4, w4 = wc := ⟨_, rfl⟩
      have hf4 : Fr (fun _ => False) w1 w4 := by rw [hw4', hw4]; exact HF3.out.drewN _
      rw [← hw4']
      clear hw4 hw4' c0 c1 c2 c3 d0 d3 d5
      obtain ⟨c0, c1, c2, c3, d0, d3, d5⟩ := HK.out w4 hf4
      have HF4 := Lib.hid hf4
      clear hf4
      go_upto_region 11 with (fail)
      go_cut [54] (fun x54 wx => x54 = .bool (decide (acked < q)) ∧ ∃ nq, wx = w4.drewN nq)
      case first =>
        have e5 : decide ((acked : Int) < (q : Int)) = decide (acked < q) := by simp
        go_quiet (fail)
        go_wp2_with fail
        go_meet
        exact ⟨by first | rfl | exact congrArg Value.bool e5, _, rfl⟩
      case rest =>
        obtain ⟨rfl, nq4, hw5⟩ := hcut
        obtain ⟨w5, hw5'⟩ : ∃ w5, w5 = wc := ⟨_, rfl⟩
        have hf5 : Fr (fun _ => False) w1 w5 := by rw [hw5', hw5]; exact HF4.out.drewN _
        rw [← hw5']
        clear hw5 hw5' c0 c1 c2 c3 d0 d3 d5
        obtain ⟨c0, c1, c2, c3, d0, d3, d5⟩ := HK.out w5 hf5
        have HF5 := Lib.hid hf5
        clear hf5
        by_cases hqa : acked < q
        · rw [decide_eq_true hqa]
          go_upto_region 12 with (fail)
          obtain ⟨k, hk⟩ : ∃ k, k = q - acked := ⟨_, rfl⟩
          have hwr := wr_sub hk hqa (by omega)
          have hk1 : (k : Int) ≤ (S.length : Int) := by omega
          have hk2 : k ≤ S.length := by omega
          have hk3 : 1 ≤ k := by omega
          obtain ⟨g, rfl⟩ : ∃ g, A = some ⟨g, 0, none⟩ := by
            rcases HH.out.2.2.2.2.2.1 with ⟨-, h, -⟩ | h
            · rw [h] at hk2; simp at hk2; omega
            · exact h
          have e1 := al_cell c1 (Obj.cells #[] 79)
          have e3 := al_cell d3 (Obj.cells #[] 79)
          have e5 := al_cell d5 (Obj.cells #[] 79)
          have HKK := Lib.hid (And.intro hk hqa)
          clear hk hqa
          have HAP : Hid (∀ (ty : TypeId) (consts : Array Bool), ∃ v' w', (builtin .append #[72, 72] ty consts #[.slice (some ⟨w5.heap.size, 0, none⟩) 0 0, .slice (if c = k then some ⟨g, 0, none⟩ else some ⟨g, k * 2, none⟩) (S.length - k) (c - k)]).run Try.prog (w5.alloc (Obj.cells #[] 79)).drew = .ok (.value v') w' ∧ PcNew w5 w' sb v' (S.drop k) (vs.drop k) (.slice (some ⟨g, 0, none⟩) S.length c)) := Lib.hid (fun ty consts => by
            by_cases hck : c = k
            · rw [if_pos hck]
              exact pc_append HH.out.1 HH.out.2.1 (HH.out.2.2.2.2.1.tr HF5.out) hk2 hro ty 0 (c - k) (.inr (by omega)) consts
            · rw [if_neg hck]
              exact pc_append HH.out.1 HH.out.2.1 (HH.out.2.2.2.2.1.tr HF5.out) hk2 hro ty (k * 2) (c - k) (.inl rfl) consts)
          go_cut [] (fun wx => ∃ gg lc' w6, PcNew1 w5 w6 sb gg lc' (S.drop k) (vs.drop k) (.slice (some ⟨g, 0, none⟩) S.length c) ∧ wx = w6.setCell ⟨sb, 5, none⟩ (.slice (some ⟨gg, 0, none⟩) (S.drop k).length lc'))
          case first =>
            clear c0 c2 c3 d0
            go_region_law (first
                | (refine step_bi2 rfl .append _ _ _ (.slice (some ⟨w5.heap.size, 0, none⟩) 0 0) (.slice (if c = k then some ⟨g, 0, none⟩ else some ⟨g, k * 2, none⟩) (S.length - k) (c - k)) rfl rfl rfl _ (HAP.out _) ?_
                   rintro v6 w6 ⟨gg, lc', rfl, hn6⟩
                   have f5 := hn6.c5
                   have ff := hn6.cf))
            all_goals
              clear f5 ff e1 e3 e5 c1 d3 d5 hwr
              rename_i hmm
              simp only [Exit.then]
              refine hmm _ _ ?_
              go_meet
              exact ⟨gg, lc', w6, hn6, by rw [List.length_drop]⟩
          case rest =>
            obtain ⟨gg, lc', w6, hn6, hw7⟩ := hcut
            obtain ⟨w7, hw7'⟩ : ∃ w7, w7 = wc := ⟨_, rfl⟩
            obtain ⟨hB, hP, ho, hle, hf1, -, -⟩ := HH.out
            have hf6 := (hf1.tr HF5.out).tr hn6.fr
            have hB6 := hB.fr hf6 (fun h => h)
            have hf67 : Fr (fun x => x = sb) w6 w7 := by rw [hw7', hw7]; exact Fr.set1 _ _ _ _
            have hB7 : Blk w7 sb 74 #[.int .u64 3, .int .i64 (win : Int), .int .i64 (span : Int), .int .u64 (acked : Int), .int .i64 (now : Int), .slice (some ⟨gg, 0, none⟩) (S.drop k).length lc'] := by rw [hw7', hw7]; exact hB6.set_ 5 _
            have hne : w.heap.size ≠ sb := by omega
            have hk6 := HK.out w6 (HF5.out.tr hn6.fr)
            have c1' : w7.cell? ⟨w.heap.size, 1, none⟩ = some (.int .u64 (q : Int)) := hf67.cell hk6.2.1 hne
            have d3' : w7.cell? ⟨sb, 3, none⟩ = some (.int .u64 (acked : Int)) := hB7.cell 3 rfl
            have df' := hB7.frozen
            have HE := Lib.hid (And.intro hn6 (And.intro hf67 hB7))
            rw [← hw7']
            clear hw7 hw7' hB hP ho hle hf1 hf6 hB6 hf67 hB7 hk6 hn6 c0 c1 c2 c3 d0 d3 d5 e1 e3 e5 hwr
            go_wp2_with fail
            go_ret
            obtain ⟨hB, hP, ho, hle, hf1, -, -⟩ := HH.out
            obtain ⟨hn6, hf67, hB7⟩ := HE.out
            obtain ⟨hk, hqa⟩ := HKK.out
            have hf6 := (hf1.tr HF5.out).tr hn6.fr
            have hz5 := (hf1.tr HF5.out).size
            refine ⟨rfl, ?_⟩
            rw [show max acked q = q by omega, ← hk]
            have hlt : (S.drop k).length = S.length - k := List.length_drop
            exact pieces_fin (win := win) (span := span) hsb ho (by have := hn6.new; omega) (fun h => by have := hn6.new; omega) hf6.none_up hn6.row (by rw [List.length_drop, List.length_drop, hP.len]) (hf67.tr (Fr.set1 _ _ _ _)) (hB7.set_ 3 (.int .u64 (q : Int)))
              (fun i v hv => by
                rw [List.getElem?_drop] at hv
                have h1 := hP.body (k + i) v hv
                rw [show acked + (k + i) + 1 = q + i + 1 by omega] at h1
                exact ⟨Byt.fr' h1.1 hf6 (fun _ _ _ h => h), fun x hx hn => ⟨fun e => by
                  obtain ⟨x2, hx2, hlx⟩ := h1.1.lt hn
                  rw [hx2] at hx; injection hx with hx
                  have := hn6.new; omega, fun _ => h1.2 x hx hn⟩⟩) (fun s hs => hle s (List.mem_of_mem_drop hs)) (by omega)
        · rw [decide_eq_false hqa]
          go_wp2_with fail
          go_ret
          obtain ⟨hB, hP, ho, hle, hf1, -, -⟩ := HH.out
          have hf := hf1.tr HF5.out
          rw [show max acked q = acked by omega, show q - acked = 0 by omega, List.drop_zero]
          exact ⟨rfl, col, ⟨⟨_, vs, hB.fr hf (fun h => h), ⟨hP.len, own_fr hP.row hf (fun _ _ h => h), hP.rin, fun i v hv => (hP.body i v hv).fr hf (fun _ h => h.elim)⟩⟩, ho, hle, hro⟩, Recol.same hc hf.none_up⟩
end Go.Proofs.Ytpffmfjphlaiaaa
