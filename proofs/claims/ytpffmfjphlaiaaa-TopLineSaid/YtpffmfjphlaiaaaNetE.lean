/- cut: a packet is taken out of the row. -/
import Derived.Test.YtpffmfjphlaiaaaNetD
namespace Go.Proofs.Ytpffmfjphlaiaaa
open Go.RowKit

theorem flat_take : ∀ (k : Nat) (ps : List Pk) (vs : List Value), vs.length = ps.length → (flat ps vs).take (k * 3) = flat (ps.take k) (vs.take k)
  | 0, ps, vs, _ => by cases ps <;> cases vs <;> simp [flat]
  | k + 1, [], [], _ => by simp [flat]
  | k + 1, p :: ps, v :: vs, h => by
    rw [show (k + 1) * 3 = k * 3 + 3 by omega]
    simp only [flat, List.take_succ_cons]
    rw [← flat_take k ps vs (by simpa using h)]
  | k + 1, [], _ :: _, h => by simp at h
  | k + 1, _ :: _, [], h => by simp at h
theorem flat_drop : ∀ (k : Nat) (ps : List Pk) (vs : List Value), vs.length = ps.length → (flat ps vs).drop (k * 3) = flat (ps.drop k) (vs.drop k)
  | 0, ps, vs, _ => by simp
  | k + 1, [], [], _ => by simp [flat]
  | k + 1, p :: ps, v :: vs, h => by
    rw [show (k + 1) * 3 = k * 3 + 3 by omega]
    simp only [flat, List.drop_succ_cons]
    exact flat_drop k ps vs (by simpa using h)
  | k + 1, [], _ :: _, h => by simp at h
  | k + 1, _ :: _, [], h => by simp at h
theorem flat_erase (k : Nat) (ps : List Pk) (vs : List Value) (h : vs.length = ps.length) : (flat ps vs).take (k * 3) ++ (flat ps vs).drop ((k + 1) * 3) = flat (ps.eraseIdx k) (vs.eraseIdx k) := by
  rw [flat_take k ps vs h, flat_drop (k + 1) ps vs h, List.eraseIdx_eq_take_drop_succ, List.eraseIdx_eq_take_drop_succ, flat_append _ _ _ _ (by simp [h])]

theorem zc_pk : (Builtin.zeroCells #[.int .i64 0, .int .i64 0, .slice none 0 0] 1).toList = [.int .i64 0, .int .i64 0, .slice none 0 0] := by kernel_rfl
theorem zc_one : ∀ v ∈ (Builtin.zeroCells (Value.agg #[.int .i64 0, .int .i64 0, .slice none 0 0]).cells 1).toList, v.oneCell' = true := by
  intro v hv
  have : v ∈ (Builtin.zeroCells #[.int .i64 0, .int .i64 0, .slice none 0 0] 1).toList := hv
  rw [zc_pk] at this
  simp at this
  rcases this with rfl | rfl | rfl <;> rfl
theorem flat_one : ∀ (ps : List Pk) (vs : List Value), (∀ v ∈ vs, v.oneCell' = true) → ∀ u ∈ flat ps vs, u.oneCell' = true
  | [], _, _ => by simp [flat]
  | _ :: _, [], _ => by simp [flat]
  | p :: ps, v :: vs, h => by
    intro u hu
    simp only [flat, List.mem_cons] at hu
    rcases hu with rfl | rfl | rfl | hu
    · rfl
    · rfl
    · exact h _ (List.mem_cons_self ..)
    · exact flat_one ps vs (fun v hv => h v (List.mem_cons_of_mem _ hv)) u hu

/-- The row behind the copy and the clear. -/
theorem row_fin {cur X : List Value} {n k cap : Nat} (hX : cur.take (n * 3) = X) (hk : k < n) (hn : n ≤ cap) (hc : cur.length = cap * 3) (z : List Value) (hz : z.length = 3) :
    let c1 := cur.take (k * 3) ++ X.drop ((k + 1) * 3) ++ cur.drop (k * 3 + (X.drop ((k + 1) * 3)).length)
    let c2 := c1.take ((n - 1) * 3) ++ z ++ c1.drop ((n - 1) * 3 + 1 * 3)
    c2.length = cap * 3 ∧ c1.length = cap * 3 ∧ c2.take ((n - 1) * 3) = X.take (k * 3) ++ X.drop ((k + 1) * 3) := by
  have hXl : X.length = n * 3 := by rw [← hX, List.length_take, hc]; omega
  intro c1 c2
  have h1 : c1.length = cap * 3 := by
    simp only [c1, List.length_append, List.length_take, List.length_drop, hXl, hc]; omega
  have h2 : c2.length = cap * 3 := by
    simp only [c2, List.length_append, List.length_take, List.length_drop, hz, h1]; omega
  refine ⟨h2, h1, ?_⟩
  have e1 : c2.take ((n - 1) * 3) = c1.take ((n - 1) * 3) := by
    simp only [c2, List.append_assoc]
    rw [List.take_append_of_le_length (by rw [List.length_take, h1]; omega), List.take_take, Nat.min_self]
  rw [e1]
  have e2 : (cur.take (k * 3) ++ X.drop ((k + 1) * 3)).length = (n - 1) * 3 := by
    simp only [List.length_append, List.length_take, List.length_drop, hXl, hc]; omega
  have e3 : cur.take (k * 3) = X.take (k * 3) := by rw [← hX, List.take_take, Nat.min_eq_left (by omega)]
  simp only [c1]
  rw [List.take_append_of_le_length (by rw [e2]; exact Nat.le_refl _), List.take_of_length_le (by rw [e2]; exact Nat.le_refl _), e3]

theorem erase_get {α : Type} (l : List α) (k i : Nat) : (l.eraseIdx k)[i]? = if i < k then l[i]? else l[i + 1]? := by rw [List.getElem?_eraseIdx]

/-- What a packet taken out of the row leaves. -/
theorem cut_fin {w W : World} {nb : Nat} {N : Int} {L : List Pk} {A : Nat → Nat → Bool} {F : Nat → Prop} {cs : Array Value} {vs : List Value} {g cap gk k bc : Nat} {p : Pk} {c2 : List Value} {c : Array Value}
    (h1 : Blk w nb 65 cs) (h2 : cs.size = 146) (h3 : cs[0]? = some (.int .i64 N)) (h5 : ∀ a b, a < 12 → b < 12 → cs[2 + a * 12 + b]? = some (.bool (A a b))) (h6 : Packs w (.slice (some ⟨g, 0, none⟩) L.length cap) L vs F) (ho : F nb) (n1 : 1 ≤ N) (n12 : N ≤ 12)
    (hr : L.length ≤ 256) (hp : L[k]? = some p) (hv : vs[k]? = some (.slice (some ⟨gk, 0, none⟩) p.b.length bc)) (hrow : Blk w g 40 c) (hn : L.length ≤ cap) (hcm : cap ≤ maxLen)
    (hf : Fr (fun x => x = g ∨ x = nb) w W) (hW : Blk W nb 65 (cs.setIfInBounds 1 (.slice (some ⟨g, 0, none⟩) (L.length - 1) cap))) (hg : Blk W g 40 c2.toArray) (hl : c2.length = cap * 3)
    (ht : c2.take ((L.length - 1) * 3) = (flat L vs).take (k * 3) ++ (flat L vs).drop ((k + 1) * 3)) :
    W.ownsRow 0 5 1 (.slice (some ⟨gk, 0, none⟩) p.b.length bc) p.b.length (u8s p.b) ∧ F gk ∧ NetR W nb N (L.eraseIdx k) A (fun x => F x ∧ x ≠ gk) ∧ Fr F w W := by
  have hk : k < L.length := (List.getElem?_eq_some_iff.1 hp).1
  have hFg : F g := h6.rin g rfl
  have hgt : ∀ {v : Value} {q : Pk}, w.ownsRow 0 5 1 v q.b.length (u8s q.b) → ∀ j, v.ownBlock = some j → ¬ (j = g ∨ j = nb) := by
    intro v q hq j hj h
    rcases h with h | h
    · exact own_blk_ne hq hrow (by decide) j hj h
    · exact own_blk_ne hq h1 (by decide) j hj h
  obtain ⟨hb, _, hgk, hFk⟩ := h6.body k p _ hp hv
  simp only [Value.ownBlock] at hgk
  injection hgk with hgk
  subst hgk
  have hkg : gk ≠ g := own_blk_ne hb hrow (by decide) gk rfl
  have hkn : gk ≠ nb := own_blk_ne hb h1 (by decide) gk rfl
  have hle : (L.eraseIdx k).length = L.length - 1 := by rw [List.length_eraseIdx, if_pos hk]
  refine ⟨own_fr hb hf (hgt hb), hFk, ⟨⟨_, .slice (some ⟨g, 0, none⟩) (L.length - 1) cap, vs.eraseIdx k, hW, by simp [h2], ?_, ?_, ?_, ?_⟩, ⟨ho, Ne.symm hkn⟩, n1, n12, by omega⟩, hf.mono fun x _ h => by rcases h with rfl | rfl <;> assumption⟩
  · rw [Array.getElem?_setIfInBounds_ne (by omega)]; exact h3
  · rw [Array.getElem?_setIfInBounds_self_of_lt (by omega)]
  · intro a b ha hb
    rw [Array.getElem?_setIfInBounds_ne (by omega)]; exact h5 a b ha hb
  · refine ⟨?_, ?_, ?_, ?_, ?_⟩
    · rw [hle, List.length_eraseIdx, if_pos (by rw [h6.len]; exact hk), h6.len]
    · rw [hle]
      exact own_mk hg (by omega) hcm (by simpa using hl) (by rw [ht]; exact flat_erase k L vs h6.len)
    · intro j hj
      simp only [Value.ownBlock] at hj
      injection hj with hj
      subst hj
      exact ⟨hFg, Ne.symm hkg⟩
    · intro i q v hq hv'
      rw [erase_get] at hq hv'
      have key : ∀ i', i' ≠ k → L[i']? = some q → vs[i']? = some v → W.ownsRow 0 5 1 v q.b.length (u8s q.b) ∧ ∃ j, v.ownBlock = some j ∧ F j ∧ j ≠ gk := by
        intro i' hi hq hv'
        obtain ⟨e1, j, hj, hF⟩ := h6.body i' q v hq hv'
        refine ⟨own_fr e1 hf (hgt e1), j, hj, hF, ?_⟩
        rintro rfl
        have hnd := h6.apart
        have e2 : (vs.map Value.ownBlock)[i']? = some (some j) := by rw [List.getElem?_map, hv']; exact congrArg some hj
        have e3 : (vs.map Value.ownBlock)[k]? = some (some j) := by rw [List.getElem?_map, hv]; rfl
        obtain ⟨l1, e2⟩ := List.getElem?_eq_some_iff.1 e2
        obtain ⟨l2, e3⟩ := List.getElem?_eq_some_iff.1 e3
        rcases Nat.lt_or_gt_of_ne hi with hlt | hlt
        · exact (List.pairwise_iff_getElem.1 hnd) _ _ l1 l2 hlt (e2.trans e3.symm)
        · exact (List.pairwise_iff_getElem.1 hnd) _ _ l2 l1 hlt (e3.trans e2.symm)
      split at hq
      · rename_i hlt
        rw [if_pos hlt] at hv'
        exact key i (by omega) hq hv'
      · rename_i hlt
        rw [if_neg hlt] at hv'
        exact key (i + 1) (by omega) hq hv'
    · have : (vs.eraseIdx k).map Value.ownBlock = (vs.map Value.ownBlock).eraseIdx k := by
        rw [List.eraseIdx_eq_take_drop_succ, List.eraseIdx_eq_take_drop_succ, List.map_append, List.map_take, List.map_drop]
      rw [this]
      exact h6.apart.sublist (List.eraseIdx_sublist _ _)

set_option maxRecDepth 100000 in
set_option maxHeartbeats 4000000 in
theorem cut_any (nb : Nat) (N : Int) (L : List Pk) (A : Nat → Nat → Bool) (F : Nat → Prop) (k : Nat) (p : Pk) (hp : L[k]? = some p) (w : World) (h : NetR w nb N L A F) :
    Calls Try.prog 25 #[.pointer (some ⟨nb, 0, none⟩), .int .i64 k] w fun e w' => ∃ g cap, e = .returned (.agg #[.int .i64 p.f, .int .i64 p.t, .slice (some ⟨g, 0, none⟩) p.b.length cap]) ∧
      w'.ownsRow 0 5 1 (.slice (some ⟨g, 0, none⟩) p.b.length cap) p.b.length (u8s p.b) ∧ F g ∧ NetR w' nb N (L.eraseIdx k) A (fun x => F x ∧ x ≠ g) ∧ Fr F w w' := by
  obtain ⟨i0, hi0, hz0, hz1, hz2⟩ := info_parts pkinfo
  obtain ⟨⟨cs, lv, vs, h1, h2, h3, h4, h5, h6⟩, ho, n1, n12, hr⟩ := h
  have hk : k < L.length := (List.getElem?_eq_some_iff.1 hp).1
  obtain ⟨v, hv⟩ : ∃ v, vs[k]? = some v := ⟨_, List.getElem?_eq_getElem (by rw [h6.len]; exact hk)⟩
  obtain ⟨hbody, gk, hgk, hFg⟩ := h6.body k p v hp hv
  obtain ⟨hx0, hx1, hx2⟩ := flat_get L vs k p v hp hv
  obtain ⟨bc, rfl⟩ : ∃ bc, v = .slice (some ⟨gk, 0, none⟩) p.b.length bc := by
    rcases own_form hbody with ⟨rfl, _, _⟩ | ⟨g, cap, cur, rfl, _⟩
    · cases hgk
    · simp only [Value.ownBlock] at hgk
      injection hgk with hgk
      subst hgk
      exact ⟨_, rfl⟩
  obtain ⟨g, cap, cur, rfl, -, hrow, hn, hcm, hcs, htk⟩ : ∃ g cap cur, lv = .slice (some ⟨g, 0, none⟩) L.length cap ∧ 0 ≤ g ∧ Blk w g 40 cur ∧ L.length ≤ cap ∧ cap ≤ maxLen ∧ cur.size = cap * 3 ∧ cur.toList.take (L.length * 3) = flat L vs := by
    rcases own_form h6.row with ⟨_, hL, _⟩ | hh
    · omega
    · exact hh
  have hgnb : g ≠ nb := Blk.ne_ hrow h1 (by decide)
  have hget : ∀ j u, (flat L vs)[j]? = some u → w.cell? ⟨g, j, none⟩ = some u := by
    intro j u hu
    refine hrow.cell j ?_
    rw [← htk, List.getElem?_take] at hu
    split at hu
    · simpa using hu
    · cases hu
  have a0 := hget _ _ hx0
  have a1 := hget _ _ hx1
  have a2 := hget _ _ hx2
  have c1 := h1.cell 1 h4
  have hnl := h1.lt
  have hgl := hrow.lt
  obtain ⟨n, hn'⟩ : ∃ n, n = L.length := ⟨_, rfl⟩
  rw [← hn'] at hk hn htk hr c1 h4
  have HN := Lib.hid hn'
  have H4 := Lib.hid h4
  have H6 := Lib.hid h6
  have HG := Lib.hid hget
  have HP := Lib.hid (And.intro hp hv)
  unfold maxLen at hcm
  clear hn' h4 h6 hget hp hv hx0 hx1 hx2
  go_enter Try.func25, Try.ntmps25
  go_wp2_with fail
  obtain ⟨w2, hw2⟩ : ∃ w2, w2 = (w.alloc (.cells #[.int .i64 0, .int .i64 0, .slice none 0 0] 40)).alloc (.cells #[.int .i64 p.f, .int .i64 p.t, .slice (some ⟨gk, 0, none⟩) p.b.length bc] 40) := ⟨_, rfl⟩
  rw [← hw2]
  have hF2 : Fr (fun _ => False) w w2 := by rw [hw2]; exact ((Fr.refl _ w).alloc _).alloc _
  have hBr : Blk w2 w.heap.size 40 #[.int .i64 0, .int .i64 0, .slice none 0 0] := by rw [hw2]; exact (Blk.new _ _ _).alloc _
  have hBp : Blk w2 (w.heap.size + 1) 40 #[.int .i64 p.f, .int .i64 p.t, .slice (some ⟨gk, 0, none⟩) p.b.length bc] := by
    have := Blk.new (w.alloc (.cells #[.int .i64 0, .int .i64 0, .slice none 0 0] 40)) 40 #[.int .i64 p.f, .int .i64 p.t, .slice (some ⟨gk, 0, none⟩) p.b.length bc]
    rw [hw2]; simpa using this
  have hz2' : w2.heap.size = w.heap.size + 2 := by rw [hw2]; simp
  have hBn := h1.fr hF2 (fun h => h)
  have hBg := hrow.fr hF2 (fun h => h)
  have j1 := hBn.cell 1 H4.out
  clear hw2 a0 a1 a2 c1
  obtain ⟨X, hX⟩ : ∃ X, X = flat L vs := ⟨_, rfl⟩
  rw [← hX] at htk
  have HX := Lib.hid hX
  clear hX
  have hXl : X.length = n * 3 := by rw [← htk, List.length_take, Array.length_toList, hcs]; omega
  have hX1 : ∀ u ∈ X, u.oneCell' = true := by
    rw [HX.out]
    refine flat_one L vs fun v hv => ?_
    obtain ⟨i, hi, rfl⟩ := List.getElem_of_mem hv
    have hi' : i < L.length := by have := H6.out.len; omega
    obtain ⟨q1, _⟩ := H6.out.body i L[i] vs[i] (List.getElem?_eq_getElem hi') (List.getElem?_eq_getElem hi)
    rcases own_form q1 with ⟨h, _⟩ | ⟨_, _, _, h, _⟩ <;> rw [h] <;> rfl
  have hsrc : ∀ j u, (X.drop ((k + 1) * 3))[j]? = some u → w2.cell? ⟨g, (k + 1) * 3 + j, none⟩ = some u := by
    intro j u hu
    rw [List.getElem?_drop, ← htk, List.getElem?_take] at hu
    refine hBg.cell _ ?_
    split at hu
    · simpa using hu
    · cases hu
  have HT := Lib.hid htk
  have hdl : (X.drop ((k + 1) * 3)).length = (n - (k + 1)) * 3 := by rw [List.length_drop, hXl]; omega
  obtain ⟨D, hD⟩ : ∃ D, D = X.drop ((k + 1) * 3) := ⟨_, rfl⟩
  rw [← hD] at hdl hsrc
  have hD1 : ∀ u ∈ D, u.oneCell' = true := fun u hu => hX1 u (List.mem_of_mem_drop (by rw [← hD]; exact hu))
  have HD := Lib.hid hD
  have HDL := Lib.hid hdl
  have HSRC := Lib.hid hsrc
  have HCS := Lib.hid hcs
  have HXL := Lib.hid hXl
  have hk0 : (0 : Int) ≤ (k : Int) := by omega
  have hk1 : (k : Int) ≤ (n : Int) := by omega
  have hkc : ¬ cap = k := by omega
  clear htk hD hdl hsrc hcs hXl hX1
  have hfit : k * 3 + D.length ≤ cur.size := by rw [HDL.out, HCS.out]; omega
  have w1 : IntKind.i64.wrap ((k : Int) + 1) = (k : Int) + 1 := IntWalk.i64_in _ (by omega)
  have w1' : (0 : Int) ≤ (k : Int) + 1 := by omega
  have w1'' : ((k : Int) + 1).toNat = k + 1 := by omega
  have hk2 : k ≤ n := by omega
  have hk3 : (k : Int) + 1 ≤ (n : Int) := by omega
  obtain ⟨c1, hc1⟩ : ∃ c1, c1 = cur.toList.take (k * 3) ++ D ++ cur.toList.drop (k * 3 + D.length) := ⟨_, rfl⟩
  have HC1 := Lib.hid hc1
  go_cut [26] (fun _ wx => Blk wx g 40 c1.toArray ∧ Fr (fun x => x = g) w2 wx)
  case first =>
    by_cases hlast : cap = k + 1
    · obtain rfl : n = k + 1 := by omega
      subst hlast
      have s1 : ¬ k + 1 = k := by omega
      have s2 : (k : Int) ≤ (k : Int) + 1 := by omega
      go_region_law (first
        | (refine step_bi2 rfl .copy _ _ _ _ _ rfl rfl rfl _ (cp_row Try.underlying61 hi0 hz1 hBg.drew (k * 3) 1 1 0 0 (some ⟨g, 0, none⟩) D (by omega) (by rw [HDL.out]; omega) (fun h => absurd h (by omega)) hfit hD1) ?_
           rintro v3 w3 ⟨hB3, hF3⟩))
      all_goals
        go_wp2_with fail
        go_meet
        rw [← HC1.out] at hB3
        exact ⟨hB3, hF3.of_drew⟩
    · go_region_law (first
        | (refine step_bi2 rfl .copy _ _ _ _ _ rfl rfl rfl _ (cp_row Try.underlying61 hi0 hz1 hBg.drew (k * 3) (n - k) (cap - k) (n - (k + 1)) (cap - (k + 1)) (some ⟨g, (k + 1) * 3, none⟩) D (by omega) HDL.out (fun _ => ⟨_, rfl, fun j u hu => by rw [add_none]; exact HSRC.out j u hu⟩) hfit hD1) ?_
           rintro v3 w3 ⟨hB3, hF3⟩))
      all_goals
        go_wp2_with fail
        go_meet
        rw [← HC1.out] at hB3
        exact ⟨hB3, hF3.of_drew⟩
  case rest =>
    obtain ⟨hB3, hF3⟩ := hcut
    obtain ⟨w3, hw3⟩ : ∃ w3, w3 = wc := ⟨_, rfl⟩
    rw [← hw3] at hB3 hF3 ⊢
    clear hw3
    have hBn3 := hBn.fr hF3 (fun e => hgnb e.symm)
    have hBr3 := hBr.fr hF3 (by omega)
    have hBp3 := hBp.fr hF3 (by omega)
    have j3 := hBn3.cell 1 H4.out
    have f3 := hBn3.frozen 1
    obtain ⟨r2, r1, r3⟩ := row_fin (k := k) HT.out hk hn (by rw [Array.length_toList]; exact HCS.out) (Builtin.zeroCells #[.int .i64 0, .int .i64 0, .slice none 0 0] 1).toList (by rw [Array.length_toList, size_zeroCells]; rfl)
    rw [← HD.out] at r1 r2 r3
    simp only [← HC1.out] at r1 r2 r3
    have hn0 : 0 < n := by omega
    have v1 : IntKind.i64.wrap ((n : Int) - 1) = (n : Int) - 1 := IntWalk.i64_in _ (by omega)
    have v1' : (0 : Int) ≤ (n : Int) - 1 := by omega
    have v1'' : ((n : Int) - 1).toNat = n - 1 := by omega
    have v2 : (n : Int) - 1 ≤ (n : Int) := by omega
    have v3 : ¬ cap = n - 1 := by omega
    have v4 : n - (n - 1) = 1 := by omega
    have v5 : n - 1 ≤ n := by omega
    have v6 : (1 : Int) ≤ (n : Int) := by omega
    have v7 : n - 1 ≤ cap := by omega
    have hfit3 : (n - 1) * 3 + 1 * 3 ≤ c1.toArray.size := by simp only [List.size_toArray]; omega
    have R1 := Lib.hid r1
    have R2 := Lib.hid r2
    have R3 := Lib.hid r3
    clear j1 r1 r2 r3
    go_upto_region 3 with (fail)
    go_cut [37] (fun _ wx => ∃ c2 : List Value, Blk wx g 40 c2.toArray ∧ c2.length = cap * 3 ∧ c2.take ((n - 1) * 3) = X.take (k * 3) ++ D ∧ Fr (fun x => x = g) w3 wx)
    case first =>
      go_region_law (first
        | (refine step_bi1 rfl .clear _ _ _ rfl rfl _ (clr_row Try.underlying61 (fun w => Try.zeroValue40 w) hB3.drew ((n - 1) * 3) 1 _ (by omega) rfl zc_one hfit3) ?_
           rintro x4 w4 ⟨hB4, hF4⟩))
      all_goals
        go_wp2_with fail
        go_meet
        exact ⟨_, hB4, R2.out, R3.out, hF4.of_drew⟩
    case rest =>
      obtain ⟨c2, hB4, hl2, ht2, hF4⟩ := hcut
      obtain ⟨w4, hw4⟩ : ∃ w4, w4 = wc := ⟨_, rfl⟩
      rw [← hw4] at hB4 hF4 ⊢
      clear hw4
      have hBn4 := hBn3.fr hF4 (fun e => hgnb e.symm)
      have hBr4 := hBr3.fr hF4 (by omega)
      have hBp4 := hBp3.fr hF4 (by omega)
      have j4 := hBn4.cell 1 H4.out
      have f4 := hBn4.frozen 1
      have L2 := Lib.hid (And.intro hl2 ht2)
      clear j3 f3 hl2 ht2
      go_upto_region 4 with (fail)
      go_region
      have b0 := hBp4.cell 0 rfl
      have b1 := hBp4.cell 1 rfl
      have b2 := hBp4.cell 2 rfl
      have q0 := hBr4.cell 0 rfl
      have q1 := hBr4.cell 1 rfl
      have q2 := hBr4.cell 2 rfl
      have q3 := hBr4.frozen
      have hne1 : nb ≠ w.heap.size := by omega
      have hne2 : nb ≠ w.heap.size + 1 := by omega
      go_wp2_with fail
      obtain ⟨hl2, ht2⟩ := L2.out
      obtain ⟨hp', hv'⟩ := HP.out
      have hF4 : Fr (fun x => x = g) w w4 := (hF2.none_up.tr hF3).tr hF4
      have hW1 := (((((hBn4.set_ 1 (.slice (some ⟨g, 0, none⟩) (n - 1) cap)).far (p := ⟨w.heap.size, 0, none⟩) hne1 (.int .i64 p.f)).far (p := ⟨w.heap.size, 1, none⟩) hne1 (.int .i64 p.t)).far (p := ⟨w.heap.size, 2, none⟩) hne1 (.slice (some ⟨gk, 0, none⟩) p.b.length bc))).drew
      have hgr : g ≠ w.heap.size := by omega
      have hW2 := ((((hB4.far (p := ⟨nb, 1, none⟩) hgnb (.slice (some ⟨g, 0, none⟩) (n - 1) cap)).far (p := ⟨w.heap.size, 0, none⟩) hgr (.int .i64 p.f)).far (p := ⟨w.heap.size, 1, none⟩) hgr (.int .i64 p.t)).far (p := ⟨w.heap.size, 2, none⟩) hgr (.slice (some ⟨gk, 0, none⟩) p.b.length bc)).drew
      have hW3 := ((((hBr4.far (p := ⟨nb, 1, none⟩) (Ne.symm hne1) (.slice (some ⟨g, 0, none⟩) (n - 1) cap)).set_ 0 (.int .i64 p.f)).set_ 1 (.int .i64 p.t)).set_ 2 (.slice (some ⟨gk, 0, none⟩) p.b.length bc)).drew
      have hW4 := (((((hF4.mono (Z := fun x => x = g ∨ x = nb) fun x _ h => .inl h).setCell (p := ⟨nb, 1, none⟩) (fun _ => .inr rfl) (.slice (some ⟨g, 0, none⟩) (n - 1) cap)).setCell (p := ⟨w.heap.size, 0, none⟩) (fun h => by simp at h) (.int .i64 p.f)).setCell (p := ⟨w.heap.size, 1, none⟩) (fun h => by simp at h) (.int .i64 p.t)).setCell (p := ⟨w.heap.size, 2, none⟩) (fun h => by simp at h) (.slice (some ⟨gk, 0, none⟩) p.b.length bc)).drew
      rw [HN.out] at hW1 hW2 hW3 hW4 ht2 hn hr hk
      rw [HX.out, HD.out, HX.out] at ht2
      refine bodyPost_ret (results_cell_row rfl _ _ w.heap.size 40 #[.int .i64 p.f, .int .i64 p.t, .slice (some ⟨gk, 0, none⟩) p.b.length bc] (0, 0) _ rfl ?_ Try.underlying40 rfl (by kernel_rfl)) rfl ⟨gk, bc, rfl, ?_⟩
      · rw [HN.out]
        show Blk _ w.heap.size 40 #[.int .i64 p.f, .int .i64 p.t, .slice (some ⟨gk, 0, none⟩) p.b.length bc]
        simpa using hW3
      · rw [HN.out]
        exact cut_fin h1 h2 h3 h5 H6.out ho n1 n12 hr hp' hv' hrow hn (by unfold maxLen; exact hcm) hW4 hW1 hW2 hl2 ht2
end Go.Proofs.Ytpffmfjphlaiaaa
