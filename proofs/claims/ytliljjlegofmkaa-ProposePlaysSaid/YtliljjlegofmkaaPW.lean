/- long; the document's Same of bytes, and of votes. -/
import Derived.Test.YtliljjlegofmkaaPT
import Derived.Test.YtliljjlegofmkaaPU
import Derived.Test.YtliljjlegofmkaaPV
import Derived.Deep.LoopGhost
import Derived.Deep.QuietTactic
import Derived.BigQuiet
namespace Go.Proofs.Ytliljjlegofmkaa
open Go.RowKit

/-- Not too long. -/
def ShortA (x : At) : Prop := x.o.length ≤ 4000 ∧ x.v.length ≤ 4000 ∧ ∀ y ∈ x.v, y.v.length ≤ 4000
def Short (l : List At) (j : Nat) : Prop := ∀ i x, i < j → i < 60 → l[i]? = some x → ShortA x
def SameW (w w' : World) : Prop := w = w'
def LongPost (l : List At) (w : World) (e : Ending) (w' : World) : Prop := ∃ b, e = .returned (.bool b) ∧ w = w' ∧ (b = false → Short l l.length)
def Upto (x : At) (k n : Nat) : Prop := x.o.length ≤ n ∧ k ≤ n ∧ k ≤ x.v.length ∧ ∀ i y, i < k → x.v[i]? = some y → min y.v.length 4000 < n
theorem Upto.short {x : At} {n : Nat} (h : Upto x x.v.length n) (hn : n ≤ 4000) : ShortA x := by
  obtain ⟨h1, h2, h3, h4⟩ := h
  refine ⟨by omega, by omega, fun y hy => ?_⟩
  obtain ⟨i, hi⟩ := List.getElem?_of_mem hy
  have := h4 i y (List.getElem?_eq_some_iff.1 hi).1 hi
  omega
theorem Upto.next {x : At} {k n : Nat} {y : Vt} (h : Upto x k n) (hy : x.v[k]? = some y) : Upto x (k + 1) (n + (min y.v.length 4000 + 1)) := by
  obtain ⟨h1, h2, h3, h4⟩ := h
  have := (List.getElem?_eq_some_iff.1 hy).1
  refine ⟨by omega, by omega, by omega, fun i z hi hz => ?_⟩
  by_cases hik : i = k
  · subst hik
    rw [hy] at hz
    cases hz
    omega
  · have := h4 i z (by omega) hz
    omega
theorem Short.next {l : List At} {j : Nat} {x : At} (h : Short l j) (hx : l[j]? = some x) (hs : ShortA x) : Short l (j + 1) := by
  intro i y hi h60 hy
  by_cases hij : i = j
  · subst hij
    rw [hx] at hy
    cases hy
    exact hs
  · exact h i y (by omega) h60 hy

set_option maxRecDepth 100000 in
set_option maxHeartbeats 4000000 in
theorem long_any (v : Value) (l : List At) (X : Nat → Prop) (w : World) (hv : AtL w v l X) :
    Calls Try.prog 21 #[v] w (LongPost l w) := by
  obtain ⟨A, c, rfl, hlm, hl⟩ := hv
  unfold maxLen at hlm
  have HL := Lib.hid hl
  clear hl
  go_enter Try.func21, Try.ntmps21
  go_wp2_with fail
  go_loopg [3] l.length (fun g x3 wr => ∃ (j : Nat), j + g = l.length ∧ x3 = .int .i64 j ∧ Short l j ∧ SameW w wr)
  case atStart => exact ⟨0, by omega, rfl, fun i x hi => by omega, rfl⟩
  case round =>
    obtain ⟨j, hj, rfl, hsh, rfl⟩ := hrel
    have HJ := Lib.hid hj
    have HSh := Lib.hid hsh
    have hj' : j ≤ l.length := by omega
    clear hj hsh
    by_cases hlt : j < l.length ∧ j < 60
    · obtain ⟨hlt, hlt2⟩ := hlt
      obtain ⟨x, hx⟩ : ∃ x, l[j]? = some x := ⟨_, List.getElem?_eq_getElem hlt⟩
      obtain ⟨b, off, os, vs, rfl, hat⟩ := HL.out j x hx
      have hown := hat.own
      have hol := hat.ol
      have hvl := hat.vot.len
      unfold maxLen at hol hvl
      obtain ⟨Ao, co, rfl, -, -⟩ := hown
      have hvot := hat.vot
      obtain ⟨⟨Av, cv, rfl, hv1⟩, -⟩ := hvot
      have hlt3 : (j : Int) < 60 := by omega
      have HV := Lib.hid hv1
      have HX := Lib.hid hx
      have q3 := hat.c3
      have q4 := hat.c4
      clear hat hv1 hx
      go_wp2_with fail
      go_loopg [4, 5] x.v.length (fun g x4 x5 wr => ∃ (k n : Nat), k + g = x.v.length ∧ x5 = .int .i64 k ∧ x4 = .int .i64 n ∧ (n ≤ 8001 ∨ n = x.o.length) ∧ Upto x k n ∧ SameW w wr)
      case atStart => exact ⟨0, x.o.length, by omega, rfl, rfl, .inr rfl, ⟨Nat.le_refl _, by omega, by omega, fun i y hi => by omega⟩, rfl⟩
      case round =>
        obtain ⟨k, n, hk, rfl, rfl, hn, hup, rfl⟩ := hrel
        have hn63 : n ≤ 9223372036854775807 := by omega
        have HK := Lib.hid hk
        have HU := Lib.hid hup
        have hk' : k ≤ x.v.length := by omega
        clear hk hup hn
        by_cases hkl : k < x.v.length
        · by_cases hn4 : n ≤ 4000
          · obtain ⟨y, hy⟩ : ∃ y, x.v[k]? = some y := ⟨_, List.getElem?_eq_getElem hkl⟩
            obtain ⟨bv, offv, sy, rfl, -, hyt, -⟩ := HV.out k y hy
            have hyb := hyt.by_
            have hyl := hyt.l
            unfold maxLen at hyl
            obtain ⟨Ay, cy, rfl, -, -⟩ := hyb
            have r3 := hyt.c3
            have HY := Lib.hid hy
            clear hyt hy
            have hn4' : (n : Int) ≤ 4000 := by omega
            by_cases hb : ¬ (4000 : Int) < (y.v.length : Int)
            · go_wp2_with fail
              go_roundg (x.v.length - (k + 1))
              case measure => have := HK.out; omega
              case rel =>
                refine ⟨k + 1, n + (y.v.length + 1), by have := HK.out; omega, by go_num, by go_num, .inl (by omega), ?_, rfl⟩
                have h := HU.out.next HY.out
                rwa [Nat.min_eq_left (by omega)] at h
            · have hb : (4000 : Int) < (y.v.length : Int) := by omega
              go_wp2_with fail
              go_roundg (x.v.length - (k + 1))
              case measure => have := HK.out; omega
              case rel =>
                refine ⟨k + 1, n + 4001, by have := HK.out; omega, by go_num, by go_num, .inl (by omega), ?_, rfl⟩
                have h := HU.out.next HY.out
                rwa [Nat.min_eq_right (by omega)] at h
          · have hn4' : ¬ (n : Int) ≤ 4000 := by omega
            go_wp2_with fail
            go_ret
            exact ⟨true, rfl, rfl, fun h => by cases h⟩
        · obtain rfl : k = x.v.length := by omega
          by_cases hn4 : n ≤ 4000
          · have hn4' : ¬ 4000 < (n : Int) := by omega
            go_wp2_with fail
            go_roundg (l.length - (j + 1))
            case measure => have := HJ.out; omega
            case rel => exact ⟨j + 1, by have := HJ.out; omega, by go_num, HSh.out.next HX.out (HU.out.short hn4), rfl⟩
          · have hn4' : 4000 < (n : Int) := by omega
            go_wp2_with fail
            go_ret
            exact ⟨true, rfl, rfl, fun h => by cases h⟩
    · have hcs : (j < l.length ∧ ¬ (j : Int) < 60) ∨ ¬ (j < l.length) := by omega
      have HC := Lib.hid hlt
      clear hlt
      rcases hcs with ⟨ha, hb⟩ | ha
      all_goals
        go_wp2_with fail
        go_ret
        exact ⟨false, rfl, rfl, fun _ i x hi h60 hx => HSh.out i x (by have := HC.out; omega) h60 hx⟩

theorem str_tl {a b : List UInt8} (h : a ≠ b) : ((strOf a).toList == (strOf b).toList) = false := by
  unfold strOf
  rw [ByteArray.toList_mk, ByteArray.toList_mk]
  simpa using h
set_option maxHeartbeats 1000000 in
theorem same_any (a b : Value) (la lb : List UInt8) (w : World) (ha : Byt w a la) (hb : Byt w b lb) :
    Calls Try.prog 20 #[a, b] w fun e w' => e = .returned (.bool (decide (la = lb))) ∧ w = w' := by
  have e1 : (convert 35 9 a).run Try.prog w = .ok (.string (strOf la)) w := run_str (src := 35) (dst := 9) Try.underlying35 Try.underlying5 Try.underlying9 ha
  have e2 : (convert 35 9 b).run Try.prog w = .ok (.string (strOf lb)) w := run_str (src := 35) (dst := 9) Try.underlying35 Try.underlying5 Try.underlying9 hb
  obtain ⟨A, c, rfl, -, -⟩ := ha
  obtain ⟨B, d, rfl, -, -⟩ := hb
  by_cases h : la = lb
  · subst h
    obtain ⟨S, hS⟩ : ∃ S, S = strOf la := ⟨_, rfl⟩
    rw [← hS] at e1 e2
    clear hS
    rw [decide_eq_true rfl]
    go_enter Try.func20, Try.ntmps20
    go_wp2_with fail
    go_ret
    exact ⟨rfl, rfl⟩
  · have hs := str_tl h
    obtain ⟨S, hS⟩ : ∃ S, S = strOf la := ⟨_, rfl⟩
    obtain ⟨T, hT⟩ : ∃ T, T = strOf lb := ⟨_, rfl⟩
    rw [← hS] at e1 hs
    rw [← hT] at e2 hs
    clear hS hT
    rw [decide_eq_false h]
    go_enter Try.func20, Try.ntmps20
    go_wp2_with fail
    go_ret
    exact ⟨rfl, rfl⟩

def SameVPost (la lb : List Vt) (w : World) (e : Ending) (w' : World) : Prop := ∃ bb, e = .returned (.bool bb) ∧ (bb = true ↔ la = lb) ∧ Fr (fun _ => False) w w'
theorem take_succ_eq {α : Type} {a b : List α} {j : Nat} {x : α} (h : a.take j = b.take j) (ha : a[j]? = some x) (hb : b[j]? = some x) : a.take (j + 1) = b.take (j + 1) := by
  rw [List.take_add_one, List.take_add_one, h, ha, hb]
theorem ne_at {α : Type} {a b : List α} {j : Nat} {x y : α} (ha : a[j]? = some x) (hb : b[j]? = some y) (h : x ≠ y) : a ≠ b := by
  rintro rfl
  rw [ha] at hb
  injection hb with hb
  exact h hb

set_option maxRecDepth 100000 in
set_option maxHeartbeats 4000000 in
theorem rsame_any (a b : Value) (la lb : List Vt) (X Y : Nat → Prop) (w : World) (ha : VtL w a la X) (hb : VtL w b lb Y) :
    Calls Try.prog 23 #[a, b] w (SameVPost la lb w) := by
  have ha' := ha.mono (Y := fun _ => False) (fun _ h => h.elim)
  have hb' := hb.mono (Y := fun _ => False) (fun _ h => h.elim)
  clear ha hb
  have HA := Lib.hid ha'
  have HB := Lib.hid hb'
  obtain ⟨⟨A, c, rfl, -⟩, hla⟩ := ha'
  obtain ⟨⟨B, d, rfl, -⟩, hlb⟩ := hb'
  unfold maxLen at hla hlb
  by_cases hl : la.length = lb.length
  · have hl' : ((la.length : Int) != (lb.length : Int)) = false := by simp [hl]
    have HL := Lib.hid hl
    clear hl
    go_enter Try.func23, Try.ntmps23
    go_wp2_with fail
    clear hl'
    go_loopg [5] la.length (fun g x5 wr => ∃ (j : Nat), j + g = la.length ∧ x5 = .int .i64 j ∧ la.take j = lb.take j ∧ Fr (fun _ => False) w wr)
    case atStart => exact ⟨0, by omega, rfl, rfl, Fr.refl _ _⟩
    case round =>
      obtain ⟨j, hj, rfl, htk, hfr⟩ := hrel
      have HJ := Lib.hid hj
      have HT := Lib.hid htk
      have hj' : j ≤ la.length := by omega
      clear hj htk
      by_cases hlt : j < la.length
      · obtain ⟨p, hp⟩ : ∃ p, la[j]? = some p := ⟨_, List.getElem?_eq_getElem hlt⟩
        have hlt' : j < lb.length := by have := HL.out; omega
        obtain ⟨p', hp'⟩ : ∃ p, lb[j]? = some p := ⟨_, List.getElem?_eq_getElem hlt'⟩
        obtain ⟨⟨A1, c1, e1, h1⟩, -⟩ := HA.out.fr hfr
        obtain ⟨b1, o1, s1, rfl, -, hat, -⟩ := h1 j p hp
        injection e1 with e1 _ e3
        subst e1 e3
        obtain ⟨⟨A2, c2, e2, h2⟩, -⟩ := HB.out.fr hfr
        obtain ⟨b2, o2, s2, rfl, -, hat', -⟩ := h2 j p' hp'
        injection e2 with e2 _ e3
        subst e2 e3
        have q0 := hat.c0
        have q1 := hat.c1
        have q2 := hat.c2
        have q3 := hat.c3
        have r0 := hat'.c0
        have r1 := hat'.c1
        have r2 := hat'.c2
        have r3 := hat'.c3
        have hj0 : (0 : Int) ≤ (j : Int) := by omega
        have hj1 : (j : Int) < (la.length : Int) := by omega
        have hj2 : (j : Int) < (lb.length : Int) := by omega
        have kc1 := fun n => run_str (P := Try.prog) (w := wr.drewN n) (src := 35) (dst := 9) Try.underlying35 Try.underlying5 Try.underlying9 (hat.by_.drewN n)
        have kc2 := fun n => run_str (P := Try.prog) (w := wr.drewN n) (src := 35) (dst := 9) Try.underlying35 Try.underlying5 Try.underlying9 (hat'.by_.drewN n)
        have HP := Lib.hid (And.intro hp hp')
        have HN := Lib.hid (fun h : p ≠ p' => ne_at hp hp' h)
        clear hat hat' h1 h2 hp hp'
        obtain ⟨s, n, d0, v⟩ := p
        obtain ⟨s', n', d0', v'⟩ := p'
        simp only at q0 q1 q2 q3 r0 r1 r2 r3 kc1 kc2
        by_cases hs : s = s'
        · subst hs
          by_cases hnd : n = n' ∧ d0 = d0'
          · obtain ⟨rfl, rfl⟩ := hnd
            by_cases hv : v = v'
            · subst hv
              go_upto_region 6 with (fail)
              go_quiet (fail)
              go_wp2_with fail
              go_roundg (la.length - (j + 1))
              case measure => have := HJ.out; omega
              case rel => exact ⟨j + 1, by have := HJ.out; omega, by go_num, take_succ_eq HT.out HP.out.1 HP.out.2, hfr.drewN _⟩
            · have hv1 := str_tl hv
              have hv2 : ((strOf v).toList != (strOf v').toList) = true := by simp [bne, hv1]
              have HV := Lib.hid hv
              clear hv
              go_upto_region 6 with (fail)
              go_quiet (fail)
              go_wp2_with fail
              go_ret
              refine ⟨false, rfl, ?_, hfr.drewN _⟩
              have := HN.out (by intro e; injection e; first | exact HV.out ‹_› | exact HV.out (by assumption))
              simp [this]
          · by_cases hn : n = n'
            · subst hn
              have hd : ¬ d0 = d0' := fun h => hnd ⟨rfl, h⟩
              have hd1 : (d0 != d0') = true := by simpa using hd
              have hd2 : (d0 == d0') = false := by simpa using hd
              have HV := Lib.hid hd
              clear hd hnd
              go_upto_region 6 with (fail)
              go_quiet (fail)
              go_wp2_with fail
              go_ret
              refine ⟨false, rfl, ?_, hfr.drewN _⟩
              have := HN.out (by intro e; injection e; first | exact HV.out ‹_› | exact HV.out (by assumption))
              simp [this]
            · have hn1 : ((n : Int) != (n' : Int)) = true := by simp; omega
              have hn2 : ((n : Int) == (n' : Int)) = false := by simp; omega
              have HV := Lib.hid hn
              clear hn hnd
              go_upto_region 6 with (fail)
              go_quiet (fail)
              go_wp2_with fail
              go_ret
              refine ⟨false, rfl, ?_, hfr.drewN _⟩
              have := HN.out (by intro e; injection e; first | exact HV.out ‹_› | exact HV.out (by assumption))
              simp [this]
        · have hs1 : ((s : Int) != (s' : Int)) = true := by simp; omega
          go_upto_region 6 with (fail)
          go_quiet (fail)
          go_wp2_with fail
          go_ret
          refine ⟨false, rfl, ?_, hfr.drewN _⟩
          have := HN.out (by intro e; injection e with e; exact hs e)
          simp [this]
      · obtain rfl : j = la.length := by omega
        go_wp2_with fail
        go_ret
        refine ⟨true, rfl, ?_, hfr⟩
        have h := HT.out
        rw [List.take_length, HL.out, List.take_length] at h
        simp [h]
  · have hl' : ((la.length : Int) != (lb.length : Int)) = true := by simp; omega
    have hne : la ≠ lb := fun e => hl (by rw [e])
    have HN := Lib.hid hne
    clear hl hne
    go_enter Try.func23, Try.ntmps23
    go_wp2_with fail
    go_ret
    exact ⟨false, rfl, by simp [HN.out], Fr.refl _ _⟩
end Go.Proofs.Ytliljjlegofmkaa
