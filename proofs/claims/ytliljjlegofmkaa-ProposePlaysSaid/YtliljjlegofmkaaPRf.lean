/- The document's Must. -/
import Derived.Test.YtliljjlegofmkaaPRe
import Derived.Deep.RegionHeld3
namespace Go.Proofs.Ytliljjlegofmkaa
open Go.RowKit

/-- What has to be proposed: the vote of the greatest ballot, of the lowest node. -/
def BestR (L : List (Nat × List Vt)) (k : Nat) (o : Option (Vt × Nat)) : Prop :=
  (o = none ∧ ∀ t ∈ L, ∀ v ∈ t.2, v.s ≠ k) ∨ ∃ v t, o = some (v, t.1) ∧ t ∈ L ∧ v ∈ t.2 ∧ v.s = k ∧ ∀ u ∈ L, ∀ x ∈ u.2, x.s = k → lessB v.n v.d x.n x.d = false ∧ (x.n = v.n → x.d = v.d → t.1 ≤ u.1)
/-- Seen when the loops stand at node n, place i, vote j. -/
def Proc (n i j a x node : Nat) : Prop := node < n ∨ (node = n ∧ (a < i ∨ (a = i ∧ x < j)))
def BestTo (L : List (Nat × List Vt)) (k n i j : Nat) (b : Nat) (d : Int) (val : List UInt8) : Prop :=
  (b = 0 ∧ d = 0 ∧ val = [] ∧ ∀ (a : Nat) (t : Nat × List Vt) (x : Nat) (v : Vt), L[a]? = some t → t.2[x]? = some v → v.s = k → ¬ Proc n i j a x t.1) ∨
  ∃ (a : Nat) (t : Nat × List Vt) (x : Nat) (v : Vt), L[a]? = some t ∧ t.2[x]? = some v ∧ v.s = k ∧ t.1 ≤ n ∧ b = v.n ∧ d = v.d ∧ val = v.v ∧
    ∀ (a' : Nat) (t' : Nat × List Vt) (x' : Nat) (v' : Vt), L[a']? = some t' → t'.2[x']? = some v' → v'.s = k → Proc n i j a' x' t'.1 → lessB v.n v.d v'.n v'.d = false ∧ (v'.n = v.n → v'.d = v.d → t.1 ≤ t'.1)
section
variable {L : List (Nat × List Vt)} {k n i j b : Nat} {d : Int} {val : List UInt8}
theorem BestTo.start (L : List (Nat × List Vt)) (k : Nat) : BestTo L k 0 0 0 0 0 [] := .inl ⟨rfl, rfl, rfl, fun a t x v _ _ _ h => by unfold Proc at h; omega⟩
theorem BestTo.move (h : BestTo L k n i j b d val) {n' i' j' : Nat} (hn : n ≤ n') (hp : ∀ (a : Nat) (t : Nat × List Vt) (x : Nat) (v : Vt), L[a]? = some t → t.2[x]? = some v → Proc n' i' j' a x t.1 → Proc n i j a x t.1) : BestTo L k n' i' j' b d val := by
  rcases h with ⟨h1, h2, h3, h4⟩ | ⟨a, t, x, v, h1, h2, h3, h4, h5, h6, h7, h8⟩
  · exact .inl ⟨h1, h2, h3, fun a t x v ha hx hs hpr => h4 a t x v ha hx hs (hp a t x v ha hx hpr)⟩
  · exact .inr ⟨a, t, x, v, h1, h2, h3, by omega, h5, h6, h7, fun a' t' x' v' ha hx hs hpr => h8 a' t' x' v' ha hx hs (hp a' t' x' v' ha hx hpr)⟩
theorem BestTo.other (h : BestTo L k n i 0 b d val) {t : Nat × List Vt} (ht : L[i]? = some t) (hn : t.1 ≠ n) : BestTo L k n (i + 1) 0 b d val :=
  h.move (Nat.le_refl _) fun a u x v ha hx hpr => by
    unfold Proc at *
    by_cases hai : a = i
    · subst hai
      rw [ht] at ha
      cases ha
      omega
    · omega
theorem BestTo.row (h : BestTo L k n i j b d val) {t : Nat × List Vt} (ht : L[i]? = some t) (hj : t.2.length ≤ j) : BestTo L k n (i + 1) 0 b d val :=
  h.move (Nat.le_refl _) fun a u x v ha hx hpr => by
    unfold Proc at *
    by_cases hai : a = i
    · subst hai
      rw [ht] at ha
      cases ha
      have := (List.getElem?_eq_some_iff.1 hx).1
      omega
    · omega
theorem BestTo.node (h : BestTo L k n i 0 b d val) (hi : L.length ≤ i) : BestTo L k (n + 1) 0 0 b d val :=
  h.move (by omega) fun a u x v ha _ hpr => by
    have := (List.getElem?_eq_some_iff.1 ha).1
    unfold Proc at *
    omega
theorem BestTo.keep (h : BestTo L k n i j b d val) {t : Nat × List Vt} {v : Vt} (ht : L[i]? = some t) (hv : t.2[j]? = some v) (hr : 1 ≤ v.n) (hk : v.s ≠ k ∨ lessB b d v.n v.d = false) : BestTo L k n i (j + 1) b d val := by
  have key : ∀ (a : Nat) (u : Nat × List Vt) (x : Nat) (y : Vt), L[a]? = some u → u.2[x]? = some y → Proc n i (j + 1) a x u.1 → Proc n i j a x u.1 ∨ (u = t ∧ y = v ∧ t.1 = n) := fun a u x y ha hx hpr => by
    unfold Proc at *
    by_cases hax : a = i ∧ x = j
    · obtain ⟨rfl, rfl⟩ := hax
      rw [ht] at ha
      cases ha
      rw [hv] at hx
      cases hx
      by_cases hn : t.1 < n
      · exact .inl (.inl hn)
      · exact .inr ⟨rfl, rfl, by omega⟩
    · exact .inl (by omega)
  rcases h with ⟨h1, h2, h3, h4⟩ | ⟨a, u, x, y, h1, h2, h3, h4, h5, h6, h7, h8⟩
  · refine .inl ⟨h1, h2, h3, fun a u x y ha hx hs hpr => ?_⟩
    rcases key a u x y ha hx hpr with h | ⟨rfl, rfl, h⟩
    · exact h4 a u x y ha hx hs h
    · rcases hk with hk | hk
      · exact hk hs
      · rw [h1, h2, lessB_no] at hk; omega
  · refine .inr ⟨a, u, x, y, h1, h2, h3, h4, h5, h6, h7, fun a' t' x' v' ha hx hs hpr => ?_⟩
    rcases key a' t' x' v' ha hx hpr with h | ⟨rfl, rfl, h⟩
    · exact h8 a' t' x' v' ha hx hs h
    · rcases hk with hk | hk
      · exact absurd hs hk
      · rw [h5, h6] at hk
        exact ⟨hk, fun _ _ => by omega⟩
theorem BestTo.take (h : BestTo L k n i j b d val) {t : Nat × List Vt} {v : Vt} (ht : L[i]? = some t) (hv : t.2[j]? = some v) (hn : t.1 = n) (hs : v.s = k) (hl : lessB b d v.n v.d = true) : BestTo L k n i (j + 1) v.n v.d v.v := by
  refine .inr ⟨i, t, j, v, ht, hv, hs, by omega, rfl, rfl, rfl, fun a' t' x' v' ha hx hs' hpr => ?_⟩
  by_cases hax : a' = i ∧ x' = j
  · obtain ⟨rfl, rfl⟩ := hax
    rw [ht] at ha
    cases ha
    rw [hv] at hx
    cases hx
    exact ⟨by rw [lessB_no]; omega, fun _ _ => Nat.le_refl _⟩
  · have hpr' : Proc n i j a' x' t'.1 := by unfold Proc at *; omega
    rcases h with ⟨h1, h2, h3, h4⟩ | ⟨a, u, x, y, h1, h2, h3, h4, h5, h6, h7, h8⟩
    · exact absurd hpr' (h4 a' t' x' v' ha hx hs')
    · obtain ⟨h9, h10⟩ := h8 a' t' x' v' ha hx hs' hpr'
      rw [h5, h6, lessB_iff] at hl
      rw [lessB_no] at h9 ⊢
      exact ⟨by omega, fun e1 e2 => by omega⟩
theorem BestTo.all {st : Rs} (hw : RWf st) (h : BestTo st.L k st.q.n.toNat 0 0 b d val) : ∃ o, BestR st.L k o ∧ val = (o.map (·.1.v)).getD [] ∧ o.isSome = decide (0 < b) := by
  have hp : ∀ (a : Nat) (t : Nat × List Vt) (x : Nat), st.L[a]? = some t → Proc st.q.n.toNat 0 0 a x t.1 := fun a t x ha => .inl (hw.node t (List.mem_of_getElem? ha))
  rcases h with ⟨h1, h2, h3, h4⟩ | ⟨a, u, x, y, h1, h2, h3, h4, h5, h6, h7, h8⟩
  · refine ⟨none, .inl ⟨rfl, fun t ht v hv hs => ?_⟩, by rw [h3]; rfl, by rw [h1]; rfl⟩
    obtain ⟨a, ha⟩ := List.getElem?_of_mem ht
    obtain ⟨x, hx⟩ := List.getElem?_of_mem hv
    exact h4 a t x v ha hx hs (hp a t x ha)
  · refine ⟨some (y, u.1), .inr ⟨y, u, rfl, List.mem_of_getElem? h1, List.mem_of_getElem? h2, h3, fun t ht v hv hs => ?_⟩, by rw [h7]; rfl, ?_⟩
    · obtain ⟨a', ha⟩ := List.getElem?_of_mem ht
      obtain ⟨x', hx⟩ := List.getElem?_of_mem hv
      exact h8 a' t x' v ha hx hs (hp a' t x' ha)
    · have := (rightV_get _ _ _ _ (hw.vot u (List.mem_of_getElem? h1)) x y h2).2.1
      unfold rightB at this
      rw [decide_eq_true_eq] at this
      rw [h5]
      simp [this.1]
end
set_option maxRecDepth 100000 in
set_option maxHeartbeats 8000000 in
theorem rmust_any (r : Nat) (st : Rs) (F : Nat → Prop) (k : Nat) (w : World) (h : RR w r st F) :
    Calls Try.prog 51 #[.pointer (some ⟨r, 0, none⟩), .int .u64 k] w fun e w' => ∃ o, BestR st.L k o ∧ ResB w w' (o.map (·.1.v)) e := by
  have hwf := h.wf
  obtain ⟨sv, lv, sl, ml, tv, svs, h⟩ := h
  obtain ⟨la, lc, rfl⟩ := own_sl4 h.told
  have hl := h.r_lt.2.1
  unfold maxLen at hl
  have hn12 := hwf.ok.n
  obtain ⟨N, hN⟩ : ∃ N, N = st.q.n.toNat := ⟨_, rfl⟩
  have hNi : st.q.n = (N : Int) := by omega
  have c1 : w.cell? ⟨r, 1, none⟩ = some (.int .i64 (N : Int)) := by rw [← hNi]; exact h.blk.cell 1 rfl
  have c8 : w.cell? ⟨r, 8, none⟩ = some (.slice la st.L.length lc) := h.blk.cell 8 rfl
  have hN12 : N ≤ 12 := by omega
  have HX := Lib.hid h
  have HW := Lib.hid hwf
  have HN := Lib.hid hN
  have hrl := h.blk.lt
  obtain ⟨w1, hw1⟩ : ∃ w1, w1 = w.alloc (.cells #[.int .u64 0, .int .i64 0] 33) := ⟨_, rfl⟩
  have hf1 : Fr (fun _ => False) w w1 := by rw [hw1]; exact (Fr.refl _ w).alloc _
  obtain ⟨bb, hbb⟩ : ∃ b, b = w.heap.size := ⟨_, rfl⟩
  have hB1 : Blk w1 bb 33 #[.int .u64 0, .int .i64 0] := by rw [hw1, hbb]; exact Blk.new _ _ _
  have HW1 := Lib.hid hw1
  have HBB := Lib.hid hbb
  have HC := Lib.hid (And.intro c1 c8)
  clear h hwf hn12 hNi hN hw1 hbb c1 c8
  go_enter Try.func51, Try.ntmps51
  go_upto_region 2 with (fail)
  rw [← HW1.out, ← HBB.out]
  clear HW1
  go_wp2_with fail
  go_loopg [7, 8] N (fun g x7 x8 wr => ∃ (n b : Nat) (d : Int) (val : List UInt8) (va : Option Addr) (vc : Nat), n + g = N ∧ x8 = .int .i64 n ∧ x7 = .slice va val.length vc ∧ BestTo st.L k n 0 0 b d val ∧ Byt w (.slice va val.length vc) val ∧ Blk wr bb 33 #[.int .u64 b, .int .i64 d] ∧ Fr (fun _ => False) w wr)
  case atStart => exact ⟨0, 0, 0, [], none, 0, by omega, rfl, rfl, BestTo.start _ _, byt_nil _, hB1, hf1⟩
  case round =>
    clear hB1 hf1 w1
    obtain ⟨n, b, d, val, va, vc, hn, rfl, rfl, hbt, hby, hB, hfr⟩ := hrel
    have HNn := Lib.hid hn
    have HBt := Lib.hid hbt
    have HBy := Lib.hid hby
    have hn' : n ≤ N := by omega
    have c1 := hfr.cell HC.out.1 (fun h => h)
    clear hn hbt hby
    by_cases hnN : n < N
    · go_wp2_with fail
      go_loopg [7, 9] st.L.length (fun g x7 x9 wr => ∃ (i b : Nat) (d : Int) (val : List UInt8) (va : Option Addr) (vc : Nat), i + g = st.L.length ∧ x9 = .int .i64 i ∧ x7 = .slice va val.length vc ∧ BestTo st.L k n i 0 b d val ∧ Byt w (.slice va val.length vc) val ∧ Blk wr bb 33 #[.int .u64 b, .int .i64 d] ∧ Fr (fun _ => False) w wr)
      case atStart => exact ⟨0, b, d, val, va, vc, by omega, rfl, rfl, HBt.out, HBy.out, hB, hfr⟩
      case round =>
        clear HBt HBy hB hfr c1 b d val va vc
        obtain ⟨i, b, d, val, va, vc, hi, rfl, rfl, hbt, hby, hB, hfr⟩ := hrel
        have HI := Lib.hid hi
        have HBt := Lib.hid hbt
        have HBy := Lib.hid hby
        have hi' : i ≤ st.L.length := by omega
        have c8 := hfr.cell HC.out.2 (fun h => h)
        clear hi hbt hby
        by_cases hil : i < st.L.length
        · obtain ⟨t, ht⟩ : ∃ t, st.L[i]? = some t := ⟨_, List.getElem?_eq_getElem hil⟩
          obtain ⟨g, lc', v, e1, q0, q1, hvt⟩ := HX.out.told_at ht
          injection e1 with e1 _ e2
          subst e1 e2
          have hvt' := hvt.up hfr (fun _ h => h.elim)
          obtain ⟨⟨Av, cv, rfl, hve⟩, hvl⟩ := hvt
          have HV := Lib.hid hve
          clear hve
          unfold maxLen at hvl
          have HTT := Lib.hid ht
          have hii : (i : Int) < (st.L.length : Int) := by omega
          have HQ := Lib.hid (And.intro q0 q1)
          clear ht hvt' q0 q1
          go_wp2_with fail
          go_loopg [7, 10] t.2.length (fun g' x7 x10 wr => ∃ (j b : Nat) (d : Int) (val : List UInt8) (va : Option Addr) (vc : Nat), j + g' = t.2.length ∧ x10 = .int .i64 j ∧ x7 = .slice va val.length vc ∧ (j = 0 ∨ t.1 = n) ∧ BestTo st.L k n i j b d val ∧ Byt w (.slice va val.length vc) val ∧ Blk wr bb 33 #[.int .u64 b, .int .i64 d] ∧ Fr (fun _ => False) w wr)
          case atStart => exact ⟨0, b, d, val, va, vc, by omega, rfl, rfl, .inl rfl, HBt.out, HBy.out, hB, hfr⟩
          case round =>
            clear HBt HBy hB hfr c8 b d val va vc
            obtain ⟨j, b, d, val, va, vc, hj, rfl, rfl, hjn, hbt, hby, hB, hfr⟩ := hrel
            have HJ := Lib.hid (And.intro hj hjn)
            have HBt := Lib.hid hbt
            have HBy := Lib.hid hby
            have hj' : j ≤ t.2.length := by omega
            have c8 := hfr.cell HC.out.2 (fun h => h)
            have q0 := hfr.cell HQ.out.1 (fun h => h)
            have q1 := hfr.cell HQ.out.2 (fun h => h)
            clear hj hbt hby hjn
            by_cases hjl : j < t.2.length
            · by_cases htn : t.1 = n
              · have htn' : ((t.1 : Int) == (n : Int)) = true := by simp [htn]
                have HTn := Lib.hid htn
                clear htn
                obtain ⟨z, hz⟩ : ∃ z, t.2[j]? = some z := ⟨_, List.getElem?_eq_getElem hjl⟩
                obtain ⟨bz, oz, sz, rfl, -, hat, -⟩ := HV.out j z hz
                have hzr := (rightV_get _ _ _ _ (HW.out.vot t (List.mem_of_getElem? HTT.out)) j z hz).2.1
                have hzn : 1 ≤ z.n := by
                  unfold rightB at hzr
                  rw [decide_eq_true_eq] at hzr
                  omega
                have HZ := Lib.hid hz
                have hzb := hat.by_
                have HZB := Lib.hid hat.by_
                obtain ⟨Az, cz, rfl, -, -⟩ := hzb
                have z0 := hfr.cell hat.c0 (fun h => h)
                have z1 := hfr.cell hat.c1 (fun h => h)
                have z2 := hfr.cell hat.c2 (fun h => h)
                have z3 := hfr.cell hat.c3 (fun h => h)
                obtain ⟨w2, hw2⟩ : ∃ w2, w2 = wr.alloc (.cells #[.int .u64 z.s, .int .u64 z.n, .int .i64 z.d, .slice Az z.v.length cz] 45) := ⟨_, rfl⟩
                have hf2 : Fr (fun _ => False) wr w2 := by rw [hw2]; exact (Fr.refl _ wr).alloc _
                obtain ⟨bv, hbv⟩ : ∃ b, b = wr.heap.size := ⟨_, rfl⟩
                have hV2 : Blk w2 bv 45 #[.int .u64 z.s, .int .u64 z.n, .int .i64 z.d, .slice Az z.v.length cz] := by rw [hw2, hbv]; exact Blk.new _ _ _
                have hB2 := hB.fr hf2 (fun h => h)
                have hfr2 := hfr.tr hf2
                have HW2 := Lib.hid hw2
                have HBV := Lib.hid hbv
                clear hz hzr hat hw2 hbv hf2 hB hfr
                go_upto_region 13 with (fail)
                rw [← HW2.out, ← HBV.out]
                clear HW2 HBV z0 z1 z2 z3 c8 q0 q1
                have v0 := hV2.cell 0 rfl
                have v1 := hV2.cell 1 rfl
                have v2 := hV2.cell 2 rfl
                have b0 := hB2.cell 0 rfl
                have b1 := hB2.cell 1 rfl
                go_wp2_with fail
                refine (rless_any b d z.n z.d w2).mono ?_
                rintro e w3 ⟨rfl, hf3⟩
                have hV3 := hV2.fr hf3 (fun h => h)
                have hB3 := hB2.fr hf3 (fun h => h)
                have hfr3 := hfr2.tr hf3
                clear v0 v1 v2 b0 b1 hV2 hB2 hfr2 hf3
                have v0 := hV3.cell 0 rfl
                by_cases hzs : z.s = k
                · have hzs' : ((z.s : Int) == (k : Int)) = true := by simp [hzs]
                  have HZS := Lib.hid hzs
                  clear hzs
                  cases hlb : lessB b d z.n z.d with
                  | true =>
                    have HLB := Lib.hid hlb
                    clear hlb
                    have v1 := hV3.cell 1 rfl
                    have v2 := hV3.cell 2 rfl
                    have v3 := hV3.cell 3 rfl
                    have b0 := hB3.cell 0 rfl
                    have b1 := hB3.cell 1 rfl
                    have f0 := hB3.frozen 0
                    have f1 := hB3.frozen 1
                    have hblt : ¬ bb < w.heap.size := by rw [HBB.out]; omega
                    have hne : bv ≠ bb := hV3.ne_ hB3 (by decide)
                    have y3 := ((hV3.far (p := ⟨bb, 0, none⟩) hne (.int .u64 z.n)).far (p := ⟨bb, 1, none⟩) hne (.int .i64 z.d)).cell 3 rfl
                    have y2 := (hV3.far (p := ⟨bb, 0, none⟩) hne (.int .u64 z.n)).cell 2 rfl
                    have HBlt := Lib.hid (And.intro hblt hne)
                    clear hblt hne
                    go_wp2_with fail
                    go_roundg (t.2.length - (j + 1))
                    case measure => have := HJ.out; omega
                    case rel =>
                      refine ⟨j + 1, z.n, z.d, z.v, Az, cz, by have := HJ.out; omega, by go_num, rfl, .inr HTn.out, HBt.out.take HTT.out HZ.out HTn.out HZS.out HLB.out, HZB.out, ?_, ?_⟩
                      · simpa using (hB3.set_ 0 (.int .u64 z.n)).set_ 1 (.int .i64 z.d)
                      · exact (hfr3.setCell (p := ⟨bb, 0, none⟩) (fun h => HBlt.out.1 h) _).setCell (p := ⟨bb, 1, none⟩) (fun h => HBlt.out.1 h) _
                  | false =>
                    have HLB := Lib.hid hlb
                    clear hlb
                    go_wp2_with fail
                    go_roundg (t.2.length - (j + 1))
                    case measure => have := HJ.out; omega
                    case rel => exact ⟨j + 1, b, d, val, va, vc, by have := HJ.out; omega, by go_num, rfl, .inr HTn.out, HBt.out.keep HTT.out HZ.out hzn (.inr HLB.out), HBy.out, hB3, hfr3⟩
                · have hzs' : ((z.s : Int) == (k : Int)) = false := by simp; omega
                  have HZS := Lib.hid hzs
                  clear hzs
                  go_wp2_with fail
                  go_roundg (t.2.length - (j + 1))
                  case measure => have := HJ.out; omega
                  case rel => exact ⟨j + 1, b, d, val, va, vc, by have := HJ.out; omega, by go_num, rfl, .inr HTn.out, HBt.out.keep HTT.out HZ.out hzn (.inl HZS.out), HBy.out, hB3, hfr3⟩
              · have htn' : ((t.1 : Int) == (n : Int)) = false := by simp; omega
                have HTn := Lib.hid htn
                clear htn
                go_wp2_with fail
                go_roundg (st.L.length - (i + 1))
                case measure => have := HI.out; omega
                case rel =>
                  refine ⟨i + 1, b, d, val, va, vc, by have := HI.out; omega, by go_num, rfl, ?_, HBy.out, hB, hfr⟩
                  have h := HBt.out
                  rcases HJ.out.2 with h0 | h0
                  · subst h0; exact h.other HTT.out HTn.out
                  · exact absurd h0 HTn.out
            · obtain rfl : j = t.2.length := by omega
              go_wp2_with fail
              go_roundg (st.L.length - (i + 1))
              case measure => have := HI.out; omega
              case rel => exact ⟨i + 1, b, d, val, va, vc, by have := HI.out; omega, by go_num, rfl, HBt.out.row HTT.out (Nat.le_refl _), HBy.out, hB, hfr⟩
        · obtain rfl : i = st.L.length := by omega
          go_wp2_with fail
          go_roundg (N - (n + 1))
          case measure => have := HNn.out; omega
          case rel => exact ⟨n + 1, b, d, val, va, vc, by have := HNn.out; omega, by go_num, rfl, HBt.out.node (Nat.le_refl _), HBy.out, hB, hfr⟩
    · obtain rfl : N = n := by omega
      obtain ⟨o, ho1, ho2, ho3⟩ := BestTo.all HW.out (k := k) (b := b) (d := d) (val := val) (by rw [← HN.out]; exact HBt.out)
      have HO := Lib.hid (And.intro ho1 (And.intro ho2 ho3))
      have b0 := hB.cell 0 rfl
      have hbw := HBy.out.keep (Nat.le_refl _) (hfr.none_up (X := fun k => w.heap.size ≤ k))
      have hd := (Fr.refl (fun _ => False) wr).drew
      have hvl : val.length ≤ 1000000 := by
        rw [ho2]
        rcases ho1 with ⟨rfl, -⟩ | ⟨v, t, rfl, htL, hv, -⟩
        · simp
        · obtain ⟨i, hi⟩ := List.getElem?_of_mem hv
          have := (rightV_get _ _ _ _ (HW.out.vot t htL) i v hi).2.2.2
          simp; omega
      clear ho1 ho2 ho3
      go_upto_region 17 with (fail)
      first
        | go_region_held3 (fun wx => wx.cell? ⟨bb, 0, none⟩ = some (.int .u64 b)) (first | exact b0 | exact hS4)
          ((go_at_call 62
            refine (lcopy_any _ val _ (hbw.fr hd (fun _ _ h => h)) hvl).mono ?_
            rintro e w4 ⟨va4, vc4, rfl, ho4, hf4⟩
            have hd4 := hd.tr hf4
            have hS4 := hd4.cell b0 (fun h => h)))
        | fail
      all_goals
        go_wp2_with fail
        go_ret2
        obtain ⟨ho1, ho2, ho3⟩ := HO.out
        refine ⟨o, ho1, va4, vc4, ?_, ?_, hfr.tr hd4⟩
        · have e1 : (o.map (·.1.v)).isSome = decide (0 < b) := by
            rw [Option.isSome_map, ho3]
          rw [e1, ← ho2]
          rfl
        · rw [← ho2]
          exact own_up (own_base ho4) (fun j hj => by have := (ho4.lt j hj).1; have := hfr.size; have := hd.size; omega)
end Go.Proofs.Ytliljjlegofmkaa
