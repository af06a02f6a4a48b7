/- The document's Prefix, Top, Accepted. -/
import Derived.Test.YtliljjlegofmkaaPRc
import Derived.Deep.AppendLies
namespace Go.Proofs.Ytliljjlegofmkaa
open Go.RowKit

/-! ### Prefix -/
def RPreAt (st : Rs) (a : Nat) : Prop := st.f ≤ a ∧ (∀ j, st.f ≤ j → j < a → (rchB st j).isSome = true) ∧ (rchB st a).isSome = false
theorem nodup_le : ∀ (l1 l2 : List Nat), l1.Nodup → (∀ x ∈ l1, x ∈ l2) → l1.length ≤ l2.length
  | [], l2, _, _ => by simp
  | x :: l1, l2, hn, hs => by
    rw [List.nodup_cons] at hn
    have hx := hs x (by simp)
    have h := nodup_le l1 (l2.erase x) hn.2 (fun y hy => by
      have hyx : y ≠ x := fun e => hn.1 (e ▸ hy)
      exact (List.mem_erase_of_ne hyx).2 (hs y (by simp [hy])))
    rw [List.length_erase_of_mem hx] at h
    have := List.length_pos_of_mem hx
    simp only [List.length_cons]
    omega
theorem rch_slot {st : Rs} {j : Nat} (h : (rchB st j).isSome = true) : ∃ v ∈ st.S, v.s = j := by
  unfold rchB at h
  cases hf : findV st.S j with
  | none => rw [hf] at h; simp at h
  | some v =>
    refine ⟨v, List.mem_of_find?_eq_some hf, ?_⟩
    have := List.find?_some hf
    simpa using this
theorem rch_many {st : Rs} {k : Nat} (h : ∀ j, st.f ≤ j → j < st.f + k → (rchB st j).isSome = true) : k ≤ st.S.length := by
  have := nodup_le (List.range' st.f k) (st.S.map (·.s)) List.nodup_range' (fun x hx => by
    rw [List.mem_range'_1] at hx
    obtain ⟨v, hv, he⟩ := rch_slot (h x hx.1 hx.2)
    exact List.mem_map.2 ⟨v, hv, he⟩)
  simpa using this
theorem rch_big {st : Rs} (hw : RWf st) {j : Nat} (h : j < st.f ∨ 18446744073709551616 ≤ j) : (rchB st j).isSome = false := by
  cases hc : (rchB st j).isSome with
  | false => rfl
  | true =>
    obtain ⟨v, hv, he⟩ := rch_slot hc
    have := hw.sl v hv
    omega
set_option maxRecDepth 100000 in
set_option maxHeartbeats 4000000 in
theorem rprefix_any (r : Nat) (st : Rs) (F : Nat → Prop) (w : World) (h : RR w r st F) :
    Calls Try.prog 55 #[.pointer (some ⟨r, 0, none⟩)] w fun e w' => (∃ a : Nat, a ≤ 18446744073709551616 ∧ RPreAt st a ∧ e = .returned (.int .u64 ((a - 1 : Nat) : Int))) ∧ Fr (fun _ => False) w w' := by
  have hwf := h.wf
  have HR := Lib.hid h
  obtain ⟨sv, lv, sl, ml, tv, svs, h⟩ := h
  obtain ⟨pa, pc, rfl⟩ := own_sl4 h.slot
  have hl := h.r_lt.1
  unfold maxLen at hl
  have hf1 := hwf.f1
  have hf64 := hwf.f64
  have c7 : w.cell? ⟨r, 7, none⟩ = some (.int .u64 st.f) := h.blk.cell 7 rfl
  have c9 : w.cell? ⟨r, 9, none⟩ = some (.slice pa st.S.length pc) := h.blk.cell 9 rfl
  have HW := Lib.hid hwf
  clear h hwf
  go_enter Try.func55, Try.ntmps55
  go_wp2_with fail
  clear c7
  have H9 := Lib.hid c9
  clear c9
  go_loopg [3, 4] (st.S.length + 1) (fun g x3 x4 wr => ∃ (j A : Nat), j + g = st.S.length + 1 ∧ x4 = .int .i64 j ∧ x3 = .int .u64 A ∧ A < 18446744073709551616 ∧ A = (st.f + j) % 18446744073709551616 ∧ st.f + j ≤ 18446744073709551616 ∧ (∀ i, st.f ≤ i → i < st.f + j → (rchB st i).isSome = true) ∧ Fr (fun _ => False) w wr)
  case atStart => exact ⟨0, st.f, by omega, rfl, rfl, by omega, by omega, by omega, fun i h1 h2 => by omega, Fr.refl _ _⟩
  case round =>
    obtain ⟨j, A, hj, rfl, rfl, hA64, hA, hf64', hch, hfr⟩ := hrel
    have HJ := Lib.hid hj
    have HC := Lib.hid hch
    have HA := Lib.hid hA
    have hjS : j ≤ st.S.length := rch_many hch
    have hjS' : (j : Int) ≤ (st.S.length : Int) := by omega
    have c9 := hfr.cell H9.out (fun h => h)
    clear hj hch hA
    go_wp2_with fail
    refine (rchosen_any r st F A wr (HR.out.none_ hfr)).mono ?_
    rintro e w1 ⟨va, vc, rfl, -, hf1'⟩
    have hfr1 := hfr.tr hf1'
    clear hf1' c9 hfr
    cases hc : (rchB st A).isSome with
    | false =>
      have HCC := Lib.hid hc
      clear hc
      have hsub : IntKind.u64.wrap ((A : Int) - 1) = ((st.f + j - 1 : Nat) : Int) := by
        have := HA.out
        rw [wrap64u]; omega
      have HSub := Lib.hid hsub
      clear hsub
      go_wp2_with fail
      go_ret
      refine ⟨⟨st.f + j, hf64', ⟨by omega, HC.out, ?_⟩, ?_⟩, hfr1⟩
      · by_cases h64 : st.f + j < 18446744073709551616
        · have h := HA.out
          rw [Nat.mod_eq_of_lt h64] at h
          rw [← h]; exact HCC.out
        · exact rch_big HW.out (.inr (by omega))
      · show Ending.returned (Value.int .u64 (IntKind.u64.wrap ((A : Int) - 1))) = _
        rw [HSub.out]
    | true =>
      have HCC := Lib.hid hc
      clear hc
      have hlt : st.f + j < 18446744073709551616 := by
        have h := HA.out
        rcases Nat.lt_or_ge (st.f + j) 18446744073709551616 with h1 | h1
        · exact h1
        · have h2 : st.f + j = 18446744073709551616 := by omega
          rw [h2] at h
          have := rch_big HW.out (j := A) (.inl (by omega))
          rw [HCC.out] at this
          cases this
      obtain ⟨B, hB, hB64⟩ : ∃ B : Nat, IntKind.u64.wrap ((A : Int) + 1) = (B : Int) ∧ B = (st.f + (j + 1)) % 18446744073709551616 := by
        have := HA.out
        refine ⟨(st.f + (j + 1)) % 18446744073709551616, ?_, rfl⟩
        rw [wrap64u]; omega
      have HB := Lib.hid (And.intro hB hB64)
      have hB0 : ((A : Int) + 1) % 18446744073709551616 = (B : Int) := by rw [← wrap64u]; exact hB
      have HB0 := Lib.hid hB0
      have hlt' := Lib.hid hlt
      have hjS1 : j + 1 ≤ st.S.length := rch_many (st := st) (k := j + 1) (fun i h1 h2 => by
        by_cases hi : i < st.f + j
        · exact HC.out i h1 hi
        · have h := HA.out
          rw [Nat.mod_eq_of_lt hlt] at h
          have : i = A := by omega
          rw [this]; exact HCC.out)
      clear hB hB64 hB0 hlt
      go_wp2_with fail
      rw [HB.out.1]
      go_roundg (st.S.length + 1 - (j + 1))
      case measure => have := HJ.out; omega
      case rel =>
        refine ⟨j + 1, B, by have := HJ.out; omega, by go_num, rfl, by have := HB.out.2; omega, HB.out.2, by have := hlt'.out; omega, fun i h1 h2 => ?_, hfr1⟩
        by_cases hi : i < st.f + j
        · exact HC.out i h1 hi
        · have h := HA.out
          rw [Nat.mod_eq_of_lt hlt'.out] at h
          have : i = A := by omega
          rw [this]; exact HCC.out

/-! ### Top -/
def RTop (L : List (Nat × List Vt)) (T : Nat) : Prop := (∀ t ∈ L, ∀ v ∈ t.2, v.s ≤ T) ∧ (T = 0 ∨ ∃ t ∈ L, ∃ v ∈ t.2, v.s = T)
/-- .. of the first j, and of the next one's first k. -/
def RTopTo (L : List (Nat × List Vt)) (j k T : Nat) : Prop :=
  (∀ (i : Nat) (t : Nat × List Vt), L[i]? = some t → ∀ (x : Nat) (v : Vt), t.2[x]? = some v → i < j ∨ (i = j ∧ x < k) → v.s ≤ T) ∧ (T = 0 ∨ ∃ t ∈ L, ∃ v ∈ t.2, v.s = T)
theorem RTopTo.row {L : List (Nat × List Vt)} {j T : Nat} {t : Nat × List Vt} (h : RTopTo L j t.2.length T) (ht : L[j]? = some t) : RTopTo L (j + 1) 0 T := by
  refine ⟨fun i u hu x v hv hi => ?_, h.2⟩
  by_cases hij : i = j
  · subst hij
    rw [ht] at hu
    cases hu
    exact h.1 i t ht x v hv (.inr ⟨rfl, (List.getElem?_eq_some_iff.1 hv).1⟩)
  · exact h.1 i u hu x v hv (.inl (by omega))
theorem RTopTo.next {L : List (Nat × List Vt)} {j k T : Nat} {t : Nat × List Vt} {v : Vt} (h : RTopTo L j k T) (ht : L[j]? = some t) (hv : t.2[k]? = some v) : RTopTo L j (k + 1) (if T < v.s then v.s else T) := by
  refine ⟨fun i u hu x y hy hi => ?_, ?_⟩
  · by_cases hx : i = j ∧ x = k
    · obtain ⟨rfl, rfl⟩ := hx
      rw [ht] at hu
      cases hu
      rw [hv] at hy
      cases hy
      split <;> omega
    · have := h.1 i u hu x y hy (by omega)
      split <;> omega
  · split
    · exact .inr ⟨t, List.mem_of_getElem? ht, v, List.mem_of_getElem? hv, rfl⟩
    · exact h.2
theorem RTopTo.all {L : List (Nat × List Vt)} {T : Nat} (h : RTopTo L L.length 0 T) : RTop L T := by
  refine ⟨fun t ht v hv => ?_, h.2⟩
  obtain ⟨i, hi⟩ := List.getElem?_of_mem ht
  obtain ⟨x, hx⟩ := List.getElem?_of_mem hv
  exact h.1 i t hi x v hx (.inl (List.getElem?_eq_some_iff.1 hi).1)
set_option maxRecDepth 100000 in
set_option maxHeartbeats 4000000 in
theorem rtop_any (r : Nat) (st : Rs) (F : Nat → Prop) (w : World) (h : RR w r st F) :
    Calls Try.prog 54 #[.pointer (some ⟨r, 0, none⟩)] w fun e w' => (∃ T : Nat, RTop st.L T ∧ e = .returned (.int .u64 (T : Int))) ∧ Fr (fun _ => False) w w' := by
  obtain ⟨sv, lv, sl, ml, tv, svs, h⟩ := h
  obtain ⟨la, lc, rfl⟩ := own_sl4 h.told
  have hl := h.r_lt.2.1
  unfold maxLen at hl
  have c8 : w.cell? ⟨r, 8, none⟩ = some (.slice la st.L.length lc) := h.blk.cell 8 rfl
  have HX := Lib.hid h
  clear h
  go_enter Try.func54, Try.ntmps54
  go_wp2_with fail
  go_loopg [3, 4] st.L.length (fun g x3 x4 wr => ∃ (j T : Nat), j + g = st.L.length ∧ x4 = .int .i64 j ∧ x3 = .int .u64 T ∧ RTopTo st.L j 0 T ∧ SameW w wr)
  case atStart => exact ⟨0, 0, by omega, rfl, rfl, ⟨fun i t _ x v _ h => by omega, .inl rfl⟩, rfl⟩
  case round =>
    obtain ⟨j, T, hj, rfl, rfl, hT, rfl⟩ := hrel
    have HJ := Lib.hid hj
    have HT := Lib.hid hT
    have hj' : j ≤ st.L.length := by omega
    clear hj hT
    by_cases hlt : j < st.L.length
    · obtain ⟨t, ht⟩ : ∃ t, st.L[j]? = some t := ⟨_, List.getElem?_eq_getElem hlt⟩
      obtain ⟨g, lc', v, e1, -, q1, hvt⟩ := HX.out.told_at ht
      injection e1 with e1 _ e2
      subst e1 e2
      obtain ⟨⟨Av, cv, rfl, hv1⟩, hvl⟩ := hvt
      unfold maxLen at hvl
      have HV := Lib.hid hv1
      have HTT := Lib.hid ht
      have hjj : (j : Int) < (st.L.length : Int) := by omega
      clear hv1 ht
      go_wp2_with fail
      go_loopg [3, 5] t.2.length (fun g x3 x5 wr => ∃ (k T : Nat), k + g = t.2.length ∧ x5 = .int .i64 k ∧ x3 = .int .u64 T ∧ RTopTo st.L j k T ∧ SameW w wr)
      case atStart => exact ⟨0, T, by omega, rfl, rfl, HT.out, rfl⟩
      case round =>
        clear HT T
        obtain ⟨k, T, hk, rfl, rfl, hT, rfl⟩ := hrel
        have HK := Lib.hid hk
        have HT := Lib.hid hT
        have hk' : k ≤ t.2.length := by omega
        clear hk hT
        by_cases hkl : k < t.2.length
        · obtain ⟨p, hp⟩ : ∃ p, t.2[k]? = some p := ⟨_, List.getElem?_eq_getElem hkl⟩
          obtain ⟨b, off, s, rfl, -, hat, -⟩ := HV.out k p hp
          have p0 := hat.c0
          have HP := Lib.hid (HT.out.next HTT.out hp)
          clear hat hp
          by_cases hb : T < p.s
          · have hb' : (T : Int) < (p.s : Int) := by omega
            have HB := Lib.hid hb
            go_wp2_with fail
            go_roundg (t.2.length - (k + 1))
            case measure => have := HK.out; omega
            case rel => exact ⟨k + 1, p.s, by have := HK.out; omega, by go_num, rfl, by have := HP.out; rwa [if_pos HB.out] at this, rfl⟩
          · have hb' : ¬ (T : Int) < (p.s : Int) := by omega
            have HB := Lib.hid hb
            go_wp2_with fail
            go_roundg (t.2.length - (k + 1))
            case measure => have := HK.out; omega
            case rel => exact ⟨k + 1, T, by have := HK.out; omega, by go_num, rfl, by have := HP.out; rwa [if_neg HB.out] at this, rfl⟩
        · obtain rfl : k = t.2.length := by omega
          go_wp2_with fail
          go_roundg (st.L.length - (j + 1))
          case measure => have := HJ.out; omega
          case rel => exact ⟨j + 1, T, by have := HJ.out; omega, by go_num, rfl, HT.out.row HTT.out, rfl⟩
    · obtain rfl : j = st.L.length := by omega
      go_wp2_with fail
      go_ret
      exact ⟨⟨T, HT.out.all, rfl⟩, Fr.refl _ _⟩

/-! ### Accepted -/
section
variable {w w' : World} {r : Nat} {st : Rs} {F F' Y : Nat → Prop} {sv lv sl ml lv' sl' ml' v' : Value} {tv svs : List Value}
theorem RX.keepV (h : RX w r st F sv lv sl ml tv svs) (hf : Fr Y w w') (hY : ∀ k, Y k → Off F r lv sl ml k) (hO : ∀ k, Off F' r lv' sl' ml' k → Off F r lv sl ml k ∨ w.heap.size ≤ k) :
    (∀ (i : Nat) (t : Nat × List Vt) (v : Value), st.L[i]? = some t → tv[i]? = some v → VtL w' v t.2 (Off F' r lv' sl' ml')) ∧
    (∀ (i : Nat) (v : Vt) (s : Value), st.S[i]? = some v → svs[i]? = some s → Byt w' s v.v ∧ ∀ k, s.ownBlock = some k → v.v ≠ [] → ¬ Off F' r lv' sl' ml' k) := by
  refine ⟨fun i t v h1 h2 => ?_, fun i v s h1 h2 => ?_⟩
  · exact ((h.tvo i t v h1 h2).lt.up hf (fun k hk => .inl (hY k hk))).mono hO
  · obtain ⟨h3, h4⟩ := h.svo i v s h1 h2
    refine ⟨h3.fr' hf (fun k hk hn hy => h4 k hk hn (hY k hy)), fun k hk hn ho => ?_⟩
    rcases hO k ho with h5 | h5
    · exact h4 k hk hn h5
    · obtain ⟨k', hk', hlt⟩ := h3.lt hn
      rw [hk] at hk'
      injection hk' with hk'
      omega
theorem app_fr {base e size n m : Nat} {v : Value} {xs news : List Value} (ha : Appended base e size w v n m xs news v' w') (i : Nat) (u : Value) : Fr (fun k => k = r ∨ v.ownBlock = some k) w (w'.setCell ⟨r, i, none⟩ u) :=
  ((Fr.refl _ w).grown ha.2.1 (fun _ hk _ => .inr hk)).setCell (p := ⟨r, i, none⟩) (fun _ => .inl rfl) u
theorem app_own {base e size n m : Nat} {v : Value} {xs news : List Value} (ha : Appended base e size w v n m xs news v' w') : ∀ k, v'.ownBlock = some k → v.ownBlock = some k ∨ (w.heap.size ≤ k ∧ k < w'.heap.size) := fun k hk => by
  rcases ha.2.2 with h | h
  · rw [h] at hk; exact .inl hk
  · have := (ha.1.lt k hk).2
    rw [h] at hk
    injection hk with hk
    exact .inr ⟨by omega, this⟩
/-- More blocks. -/
def More (F : Nat → Prop) (w w' : World) (k : Nat) : Prop := F k ∨ (w.heap.size ≤ k ∧ k < w'.heap.size)
theorem RX.putMark (h : RX w r st F sv lv sl ml tv svs) (m : Nat × Nat) (hm : m.1 < st.q.n.toNat ∧ m.2 < 18446744073709551616) (ha : Appended 0 116 2 w ml st.M.length 1 (flat2 (mrk st.M)) [.int .i64 (m.1 : Int), .int .u64 (m.2 : Int)] v' w') :
    RX (w'.setCell ⟨r, 10, none⟩ v') r { st with M := st.M ++ [m] } (More F w w') sv lv sl v' tv svs := by
  have hf := app_fr (r := r) ha 10 v'
  have ho := app_own ha
  have hr1 := h.blk.lt
  obtain ⟨k1, k2⟩ := h.keepV (F' := More F w w') (lv' := lv) (sl' := sl) (ml' := v') hf (fun k hk => by rcases hk with hk | hk; exact .inr (.inl hk); exact .inr (.inr (.inr (.inr hk)))) (fun k hk => by
    rcases hk with hk | hk | hk | hk | hk
    · exact .inl (.inl fun hF => hk (.inl hF))
    · exact .inl (.inr (.inl hk))
    · exact .inl (.inr (.inr (.inl hk)))
    · exact .inl (.inr (.inr (.inr (.inl hk))))
    · rcases ho k hk with h1 | h1
      · exact .inl (.inr (.inr (.inr (.inr h1))))
      · exact .inr h1.1)
  have hB : Blk w' r 99 _ := ha.blk h.blk (fun e => own_blk_ne h.mark h.blk (by decide) r e rfl)
  have hrow := ha.1
  refine ⟨by simpa using hB.set_ 10 v', own_fr h.site hf (fun k hk => ?_), own_fr h.told hf (fun k hk => ?_), own_fr h.slot hf (fun k hk => ?_), ?_, h.tlen, h.slen, k1, k2, .inl h.rF, fun k hk => .inl (h.svF k hk), fun k hk => .inl (h.lvF k hk), fun k hk => .inl (h.slF k hk), fun k hk => ?_, ?_⟩
  · rintro (e | e)
    · exact own_blk_ne h.site h.blk (by decide) k hk e
    · exact own_own_ne h.site h.mark (by decide) k k hk e rfl
  · rintro (e | e)
    · exact own_blk_ne h.told h.blk (by decide) k hk e
    · exact own_own_ne h.told h.mark (by decide) k k hk e rfl
  · rintro (e | e)
    · exact own_blk_ne h.slot h.blk (by decide) k hk e
    · exact own_own_ne h.slot h.mark (by decide) k k hk e rfl
  · show World.ownsRow _ 0 116 2 v' (st.M ++ [m]).length (flat2 (mrk (st.M ++ [m])))
    rw [List.length_append, List.length_singleton, show mrk (st.M ++ [m]) = mrk st.M ++ [(.int .i64 (m.1 : Int), .int .u64 (m.2 : Int))] by simp [mrk], flat2_append]
    refine own_fr hrow (Fr.set1 w' r 10 v') (fun k hk e => ?_)
    exact own_blk_ne hrow hB (by decide) k hk e
  · rcases ho k hk with h1 | h1
    · exact .inl (h.mlF k h1)
    · exact .inr h1
  · have hw := h.wf
    exact ⟨hw.ok, hw.ql, hw.rb, hw.n64, hw.f1, hw.f64, hw.node, hw.dist, hw.vot, hw.sl, hw.sd, fun x hx => by
      rcases List.mem_append.1 hx with hx | hx
      · exact hw.mks x hx
      · have : x = m := by simpa using hx
        rw [this]; exact hm⟩
end
end Go.Proofs.Ytliljjlegofmkaa
