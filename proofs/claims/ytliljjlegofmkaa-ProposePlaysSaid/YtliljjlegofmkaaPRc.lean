/- The document's find, Ready, Chosen, Prefix. -/
import Derived.Test.YtliljjlegofmkaaPRb
import Derived.Deep.LoopGhost
namespace Go.Proofs.Ytliljjlegofmkaa
open Go.RowKit

def FindR (S : List Vt) (k : Nat) (z : Int) : Prop := (z = -1 ∧ ∀ v ∈ S, v.s ≠ k) ∨ ∃ (i : Nat) (v : Vt), z = (i : Int) ∧ S[i]? = some v ∧ v.s = k
def FindPost (S : List Vt) (k : Nat) (w : World) (e : Ending) (w' : World) : Prop := (∃ z, FindR S k z ∧ e = .returned (.int .i64 z)) ∧ w = w'
def NoSlot (S : List Vt) (j k : Nat) : Prop := ∀ (i : Nat) (v : Vt), i < j → S[i]? = some v → v.s ≠ k
theorem RX.r_lt {w : World} {r : Nat} {st : Rs} {F : Nat → Prop} {sv lv sl ml : Value} {tv svs : List Value} (h : RX w r st F sv lv sl ml tv svs) : st.S.length ≤ maxLen ∧ st.L.length ≤ maxLen ∧ st.M.length ≤ maxLen := by
  have key : ∀ {e size n : Nat} {v : Value} {xs : List Value}, w.ownsRow 0 e size v n xs → n ≤ maxLen := fun h => by
    rcases own_form h with ⟨_, h, _⟩ | ⟨g, cap, cur, _, _, _, h4, h5, _⟩
    · omega
    · omega
  exact ⟨key h.slot, key h.told, key h.mark⟩

set_option maxHeartbeats 2000000 in
theorem rfind_any (r : Nat) (st : Rs) (F : Nat → Prop) (k : Nat) (w : World) (h : RR w r st F) :
    Calls Try.prog 63 #[.pointer (some ⟨r, 0, none⟩), .int .u64 k] w (FindPost st.S k w) := by
  obtain ⟨sv, lv, sl, ml, tv, svs, h⟩ := h
  obtain ⟨sa, sc, rfl⟩ := own_sl4 h.slot
  have c9 : w.cell? ⟨r, 9, none⟩ = some (.slice sa st.S.length sc) := h.blk.cell 9 rfl
  have hl := h.r_lt.1
  unfold maxLen at hl
  have HX := Lib.hid h
  clear h
  go_enter Try.func63, Try.ntmps63
  go_wp2_with fail
  go_loopg [5] st.S.length (fun g x5 wr => ∃ (j : Nat), j + g = st.S.length ∧ x5 = .int .i64 j ∧ NoSlot st.S j k ∧ SameW w wr)
  case atStart => exact ⟨0, by omega, rfl, fun i v hi => by omega, rfl⟩
  case round =>
    obtain ⟨j, hj, rfl, hno, rfl⟩ := hrel
    have HJ := Lib.hid hj
    have HN := Lib.hid hno
    have hj' : j ≤ st.S.length := by omega
    clear hj hno
    by_cases hlt : j < st.S.length
    · obtain ⟨v, hv⟩ : ∃ v, st.S[j]? = some v := ⟨_, List.getElem?_eq_getElem hlt⟩
      obtain ⟨g, lc, s, e1, q0, -, -, -, -, -⟩ := HX.out.slot_at hv
      injection e1 with e1 _ e2
      subst e1 e2
      have HV := Lib.hid hv
      clear hv
      by_cases hk : v.s = k
      · have hk' : ((v.s : Int) == (k : Int)) = true := by simp [hk]
        have HK := Lib.hid hk
        clear hk
        go_wp2_with fail
        go_ret
        exact ⟨⟨_, .inr ⟨j, v, rfl, HV.out, HK.out⟩, rfl⟩, rfl⟩
      · have hk' : ((v.s : Int) == (k : Int)) = false := by simp; omega
        have HK := Lib.hid hk
        clear hk
        go_wp2_with fail
        go_roundg (st.S.length - (j + 1))
        case measure => have := HJ.out; omega
        case rel =>
          refine ⟨j + 1, by have := HJ.out; omega, by go_num, fun i u hi hu => ?_, rfl⟩
          by_cases hij : i = j
          · subst hij
            rw [HV.out] at hu
            cases hu
            exact HK.out
          · exact HN.out i u (by omega) hu
    · obtain rfl : j = st.S.length := by omega
      go_wp2_with fail
      go_ret
      refine ⟨⟨-1, .inl ⟨rfl, fun v hv => ?_⟩, rfl⟩, rfl⟩
      obtain ⟨i, hi⟩ := List.getElem?_of_mem hv
      exact HN.out i v (List.getElem?_eq_some_iff.1 hi).1 hi

/-! ### Ready -/
theorem add_bit0 (X n : Nat) (h : X.testBit n = false) : X + 2 ^ n = X ||| 2 ^ n := by
  have hb : X % 2 ^ (n + 1) < 2 ^ n := by
    rw [Nat.testBit_eq_decide_div_mod_eq, decide_eq_false_iff_not] at h
    have h1 := Nat.div_add_mod X (2 ^ n)
    have h2 : X % 2 ^ n < 2 ^ n := Nat.mod_lt _ (Nat.two_pow_pos n)
    have h3 : X / 2 ^ n = 2 * (X / 2 ^ n / 2) := by omega
    have h4 : X = 2 ^ (n + 1) * (X / 2 ^ n / 2) + X % 2 ^ n := by
      rw [Nat.pow_succ, Nat.mul_assoc, ← h3]; exact h1.symm
    rw [h4, Nat.mul_add_mod, Nat.mod_eq_of_lt (Nat.lt_of_lt_of_le h2 (Nat.pow_le_pow_right (by omega) (by omega)))]
    exact h2
  have hX := Nat.div_add_mod X (2 ^ (n + 1))
  generalize X / 2 ^ (n + 1) = a at hX
  generalize X % 2 ^ (n + 1) = b at hX hb
  have hb1 : b < 2 ^ (n + 1) := by rw [Nat.pow_succ]; omega
  have hb2 : 2 ^ n + b < 2 ^ (n + 1) := by rw [Nat.pow_succ]; omega
  rw [← hX, Nat.add_assoc, Nat.add_comm b, Nat.two_pow_add_eq_or_of_lt hb2, Nat.two_pow_add_eq_or_of_lt hb1]
  have := Nat.two_pow_add_eq_or_of_lt hb 1
  rw [Nat.mul_one] at this
  rw [this, Nat.or_assoc, Nat.or_comm b]
theorem add_bit (X x : Nat) (hX : X < 4096) (hx : x < 12) (hb : X.testBit x = false) : ((X : Int) + 2 ^ x) % 4294967296 = ((X ||| 2 ^ x : Nat) : Int) := by
  have h1 := or_lt X x hX hx
  rw [← add_bit0 X x hb] at h1 ⊢
  have : ((2 : Int) ^ x) = ((2 ^ x : Nat) : Int) := by simp
  rw [this]
  generalize 2 ^ x = P at *
  omega
def toldBit (L : List (Nat × List Vt)) (i : Nat) : Bool := L.any fun t => t.1 == i
theorem toldBit_take {L : List (Nat × List Vt)} {j : Nat} {t : Nat × List Vt} (h : L[j]? = some t) (i : Nat) : toldBit (L.take (j + 1)) i = (toldBit (L.take j) i || t.1 == i) := by
  unfold toldBit
  rw [List.take_add_one, h, List.any_append]
  simp
def rreadyB (st : Rs) : Bool := isQ st.q false (toldBit st.L)
theorem told_new {st : Rs} (h : RWf st) {j : Nat} {t : Nat × List Vt} (ht : st.L[j]? = some t) : toldBit (st.L.take j) t.1 = false := by
  unfold toldBit
  rw [List.any_eq_false]
  intro u hu
  obtain ⟨i, hi⟩ := List.getElem?_of_mem hu
  rw [List.getElem?_take] at hi
  split at hi
  · rename_i hij
    have hp := List.pairwise_iff_getElem.1 h.dist
    obtain ⟨hil, hie⟩ := List.getElem?_eq_some_iff.1 hi
    obtain ⟨hjl, hje⟩ := List.getElem?_eq_some_iff.1 ht
    have := hp i j hil hjl hij
    rw [hie, hje] at this
    simpa using this
  · cases hi
set_option maxRecDepth 100000 in
set_option maxHeartbeats 2000000 in
theorem rready_any (r : Nat) (st : Rs) (F : Nat → Prop) (w : World) (h : RR w r st F) :
    Calls Try.prog 53 #[.pointer (some ⟨r, 0, none⟩)] w fun e w' => e = .returned (.bool (rreadyB st)) ∧ Fr (fun _ => False) w w' := by
  have hwf := h.wf
  obtain ⟨sv, lv, sl, ml, tv, svs, h⟩ := h
  obtain ⟨sa, sc, rfl⟩ := own_sl4 h.site
  obtain ⟨la, lc, rfl⟩ := own_sl4 h.told
  have HI := Lib.hid (fun X hX => ris_any st.q false (.slice sa st.q.s.length sc) X hX w (ints_own h.site) hwf.ql)
  have c0 : w.cell? ⟨r, 0, none⟩ = some (.int .i64 st.q.k) := h.blk.cell 0 rfl
  have c1 : w.cell? ⟨r, 1, none⟩ = some (.int .i64 st.q.n) := h.blk.cell 1 rfl
  have c2 : w.cell? ⟨r, 2, none⟩ = some (.int .i64 st.q.o) := h.blk.cell 2 rfl
  have c3 : w.cell? ⟨r, 3, none⟩ = some (.int .i64 st.q.t) := h.blk.cell 3 rfl
  have c4 : w.cell? ⟨r, 4, none⟩ = some (.slice sa st.q.s.length sc) := h.blk.cell 4 rfl
  have c8 : w.cell? ⟨r, 8, none⟩ = some (.slice la st.L.length lc) := h.blk.cell 8 rfl
  have hl := h.r_lt.2.1
  have hn12 := hwf.ok.n
  unfold maxLen at hl
  have HX := Lib.hid h
  have HW := Lib.hid hwf
  have HN := Lib.hid hn12
  clear h hwf hn12
  go_enter Try.func53, Try.ntmps53
  go_wp2_with fail
  go_loopg [3, 4] st.L.length (fun g x3 x4 wr => ∃ (j X : Nat), j + g = st.L.length ∧ x4 = .int .i64 j ∧ x3 = .int .u32 X ∧ X < 4096 ∧ (∀ i, X.testBit i = toldBit (st.L.take j) i) ∧ SameW w wr)
  case atStart => exact ⟨0, 0, by omega, rfl, rfl, by omega, fun i => by simp [toldBit], rfl⟩
  case round =>
    obtain ⟨j, X, hj, rfl, rfl, hX, hbit, rfl⟩ := hrel
    have HJ := Lib.hid hj
    have HB := Lib.hid hbit
    have hj' : j ≤ st.L.length := by omega
    clear hj hbit
    by_cases hlt : j < st.L.length
    · obtain ⟨t, ht⟩ : ∃ t, st.L[j]? = some t := ⟨_, List.getElem?_eq_getElem hlt⟩
      obtain ⟨g, lc', v, e1, q0, -, -⟩ := HX.out.told_at ht
      injection e1 with e1 _ e2
      subst e1 e2
      have ht12 : t.1 < 12 := by have := HW.out.node t (List.mem_of_getElem? ht); have := HN.out; omega
      have ht0 : (0 : Int) ≤ (t.1 : Int) := by omega
      have hnb : X.testBit t.1 = false := by rw [HB.out]; exact told_new HW.out ht
      have HNB := Lib.hid hnb
      have HT := Lib.hid ht
      obtain ⟨Y, hY⟩ : ∃ Y, Y = X ||| 2 ^ t.1 := ⟨_, rfl⟩
      have hY12 : Y < 4096 := by rw [hY]; exact or_lt X t.1 hX ht12
      have hadd : ((X : Int) + 2 ^ t.1) % 4294967296 = (Y : Int) := by rw [hY]; exact add_bit X t.1 hX ht12 hnb
      have HA := Lib.hid hadd
      have HY := Lib.hid hY
      clear hnb ht hY hadd
      go_wp2_with fail
      rw [HA.out]
      go_roundg (st.L.length - (j + 1))
      case measure => have := HJ.out; omega
      case rel =>
        refine ⟨j + 1, Y, by have := HJ.out; omega, by go_num, rfl, hY12, fun i => ?_, rfl⟩
        rw [HY.out, Nat.testBit_or, HB.out, toldBit_take HT.out, Nat.testBit_two_pow]
        rfl
    · obtain rfl : j = st.L.length := by omega
      go_wp2_with fail
      refine (HI.out X (by omega)).mono ?_
      rintro e w1 ⟨rfl, hf1⟩
      have he : isQ st.q false X.testBit = rreadyB st := by
        unfold rreadyB
        refine isQ_congr fun i _ => ?_
        rw [HB.out, List.take_length]
      rw [he]
      clear he
      go_wp2_with fail
      go_ret
      exact ⟨rfl, hf1⟩

/-! ### Chosen -/
def markBit (M : List (Nat × Nat)) (k i : Nat) : Bool := M.any fun m => m.2 == k && m.1 == i
theorem markBit_take {M : List (Nat × Nat)} {j k : Nat} {m : Nat × Nat} (h : M[j]? = some m) (i : Nat) : markBit (M.take (j + 1)) k i = (markBit (M.take j) k i || (m.2 == k && m.1 == i)) := by
  unfold markBit
  rw [List.take_add_one, h, List.any_append]
  simp
def findV (S : List Vt) (k : Nat) : Option Vt := S.find? fun v => v.s == k
def rchB (st : Rs) (k : Nat) : Option (List UInt8) := (findV st.S k).bind fun v => if isQ st.q true (markBit st.M k) then some v.v else none
theorem FindR.is {st : Rs} (hw : RWf st) {k : Nat} {z : Int} (h : FindR st.S k z) : (z = -1 ∧ findV st.S k = none) ∨ ∃ (i : Nat) (v : Vt), z = (i : Int) ∧ st.S[i]? = some v ∧ v.s = k ∧ findV st.S k = some v := by
  rcases h with ⟨h1, h2⟩ | ⟨i, v, h1, h2, h3⟩
  · refine .inl ⟨h1, ?_⟩
    unfold findV
    rw [List.find?_eq_none]
    intro v hv
    simpa using h2 v hv
  · refine .inr ⟨i, v, h1, h2, h3, ?_⟩
    unfold findV
    cases hf : st.S.find? (fun v => v.s == k) with
    | none =>
      rw [List.find?_eq_none] at hf
      exact absurd h3 (by simpa using hf v (List.mem_of_getElem? h2))
    | some u =>
      have hu := List.find?_some hf
      have hum := List.mem_of_find?_eq_some hf
      obtain ⟨i', hi'⟩ := List.getElem?_of_mem hum
      have hp := List.pairwise_iff_getElem.1 hw.sd
      obtain ⟨hl1, he1⟩ := List.getElem?_eq_some_iff.1 hi'
      obtain ⟨hl2, he2⟩ := List.getElem?_eq_some_iff.1 h2
      have hus : u.s = k := by simpa using hu
      rcases Nat.lt_trichotomy i i' with h | h | h
      · have := hp i i' hl2 hl1 h
        rw [he1, he2] at this
        exact absurd (h3.trans hus.symm) this
      · subst h
        rw [h2] at hi'
        exact hi'.symm
      · have := hp i' i hl1 hl2 h
        rw [he1, he2] at this
        exact absurd (hus.trans h3.symm) this
def ResR (w w' : World) (x : Option (List UInt8)) (e : Ending) : Prop :=
  ∃ va vc, e = .returned (.tuple #[.slice va (x.getD []).length vc, .bool x.isSome]) ∧ Byt w' (.slice va (x.getD []).length vc) (x.getD []) ∧ Fr (fun _ => False) w w'
set_option maxRecDepth 100000 in
set_option maxHeartbeats 4000000 in
theorem rchosen_any (r : Nat) (st : Rs) (F : Nat → Prop) (k : Nat) (w : World) (h : RR w r st F) :
    Calls Try.prog 52 #[.pointer (some ⟨r, 0, none⟩), .int .u64 k] w fun e w' => ResR w w' (rchB st k) e := by
  have hwf := h.wf
  have HF := Lib.hid (rfind_any r st F k w h)
  obtain ⟨sv, lv, sl, ml, tv, svs, h⟩ := h
  obtain ⟨sa, sc, rfl⟩ := own_sl4 h.site
  obtain ⟨ma, mc, rfl⟩ := own_sl4 h.mark
  obtain ⟨pa, pc, rfl⟩ := own_sl4 h.slot
  have HI := Lib.hid (fun X hX => ris_any st.q true (.slice sa st.q.s.length sc) X hX w (ints_own h.site) hwf.ql)
  have hl := h.r_lt
  have hn12 := hwf.ok.n
  unfold maxLen at hl
  obtain ⟨hl1, hl2, hl3⟩ := hl
  have HX := Lib.hid h
  have HW := Lib.hid hwf
  have HN := Lib.hid hn12
  have c10 : w.cell? ⟨r, 10, none⟩ = some (.slice ma st.M.length mc) := h.blk.cell 10 rfl
  clear h hwf hn12
  go_enter Try.func52, Try.ntmps52
  go_wp2_with fail
  go_loopg [6, 7] st.M.length (fun g x6 x7 wr => ∃ (j X : Nat), j + g = st.M.length ∧ x7 = .int .i64 j ∧ x6 = .int .u32 X ∧ X < 4096 ∧ (∀ i, X.testBit i = markBit (st.M.take j) k i) ∧ SameW w wr)
  case atStart => exact ⟨0, 0, by omega, rfl, rfl, by omega, fun i => by simp [markBit], rfl⟩
  case round =>
    obtain ⟨j, X, hj, rfl, rfl, hX, hbit, rfl⟩ := hrel
    have HJ := Lib.hid hj
    have HB := Lib.hid hbit
    have hj' : j ≤ st.M.length := by omega
    clear hj hbit
    by_cases hlt : j < st.M.length
    · obtain ⟨m, hm⟩ : ∃ m, st.M[j]? = some m := ⟨_, List.getElem?_eq_getElem hlt⟩
      obtain ⟨g, lc', e1, q0, q1⟩ := HX.out.mark_at hm
      injection e1 with e1 _ e2
      subst e1 e2
      have hm12 : m.1 < 12 := by have := (HW.out.mks m (List.mem_of_getElem? hm)).1; have := HN.out; omega
      have hm0 : (0 : Int) ≤ (m.1 : Int) := by omega
      have HM := Lib.hid hm
      clear hm
      by_cases hk : m.2 = k
      · have hk' : ((m.2 : Int) == (k : Int)) = true := by simp [hk]
        have HK := Lib.hid hk
        obtain ⟨Y, hY⟩ : ∃ Y, Y = X ||| 2 ^ m.1 := ⟨_, rfl⟩
        have hY12 : Y < 4096 := by rw [hY]; exact or_lt X m.1 hX hm12
        have HY := Lib.hid hY
        clear hk hY
        go_wp2_with fail
        rw [or_bit X m.1 hX hm12, ← HY.out]
        go_roundg (st.M.length - (j + 1))
        case measure => have := HJ.out; omega
        case rel =>
          refine ⟨j + 1, Y, by have := HJ.out; omega, by go_num, rfl, hY12, fun i => ?_, rfl⟩
          rw [HY.out, Nat.testBit_or, HB.out, markBit_take HM.out, Nat.testBit_two_pow, HK.out]
          simp
          rfl
      · have hk' : ((m.2 : Int) == (k : Int)) = false := by simp; omega
        have HK := Lib.hid hk
        clear hk
        go_wp2_with fail
        go_roundg (st.M.length - (j + 1))
        case measure => have := HJ.out; omega
        case rel =>
          refine ⟨j + 1, X, by have := HJ.out; omega, by go_num, rfl, hX, fun i => ?_, rfl⟩
          have : (m.2 == k) = false := by simpa using HK.out
          rw [HB.out, markBit_take HM.out, this]
          simp
    · obtain rfl : j = st.M.length := by omega
      go_wp2_with fail
      refine HF.out.mono ?_
      rintro e w1 ⟨⟨z, hz, rfl⟩, rfl⟩
      have hz' := hz.is HW.out
      have HZ := Lib.hid hz'
      clear hz hz' c10
      have c0 : w.cell? ⟨r, 0, none⟩ = some (.int .i64 st.q.k) := HX.out.blk.cell 0 rfl
      have c1 : w.cell? ⟨r, 1, none⟩ = some (.int .i64 st.q.n) := HX.out.blk.cell 1 rfl
      have c2 : w.cell? ⟨r, 2, none⟩ = some (.int .i64 st.q.o) := HX.out.blk.cell 2 rfl
      have c3 : w.cell? ⟨r, 3, none⟩ = some (.int .i64 st.q.t) := HX.out.blk.cell 3 rfl
      have c4 : w.cell? ⟨r, 4, none⟩ = some (.slice sa st.q.s.length sc) := HX.out.blk.cell 4 rfl
      go_wp2_with fail
      refine (HI.out X (by omega)).mono ?_
      rintro e w1 ⟨rfl, hf1⟩
      have he : isQ st.q true X.testBit = isQ st.q true (markBit st.M k) := isQ_congr fun i _ => by rw [HB.out, List.take_length]
      rw [he]
      clear he c0 c1 c2 c3 c4
      have hcb : rchB st k = (findV st.S k).bind fun v => if isQ st.q true (markBit st.M k) then some v.v else none := rfl
      have HC := Lib.hid hcb
      clear hcb
      rcases HZ.out with ⟨rfl, hf⟩ | ⟨i, v, rfl, hv, hvk, hf⟩
      · have hr : rchB st k = none := by rw [HC.out, hf]; rfl
        have HRr := Lib.hid hr
        clear hr hf
        go_wp2_with fail
        go_ret2
        rw [HRr.out]
        exact ⟨none, 0, rfl, byt_nil _, hf1⟩
      · obtain ⟨g, lc', s, e1, -, -, -, q3, hby, -⟩ := HX.out.slot_at hv
        injection e1 with e1 _ e2
        subst e1 e2
        have c9 : w1.cell? ⟨r, 9, none⟩ = some (.slice (some ⟨g, 0, none⟩) st.S.length pc) := hf1.cell (HX.out.blk.cell 9 rfl) (fun h => h)
        have p3 := hf1.cell q3 (fun h => h)
        have hby1 := hby.fr hf1 (fun _ _ h => h)
        obtain ⟨va, vc, rfl, -, -⟩ := hby
        have hil : (i : Int) < (st.S.length : Int) := by have := (List.getElem?_eq_some_iff.1 hv).1; omega
        have hi0 : ¬ (i : Int) < 0 := by omega
        have hi0' : (0 : Int) ≤ (i : Int) := by omega
        cases hq : isQ st.q true (markBit st.M k) with
        | false =>
          have hr : rchB st k = none := by rw [HC.out, hf, hq]; rfl
          have HRr := Lib.hid hr
          clear hr hf hq hv hvk q3
          go_wp2_with fail
          go_ret2
          rw [HRr.out]
          exact ⟨none, 0, rfl, byt_nil _, hf1⟩
        | true =>
          have hr : rchB st k = some v.v := by rw [HC.out, hf, hq]; rfl
          have HRr := Lib.hid hr
          clear hr hf hq hv hvk q3
          go_wp2_with fail
          go_ret2
          rw [HRr.out]
          exact ⟨va, vc, rfl, hby1, hf1⟩
end Go.Proofs.Ytliljjlegofmkaa
