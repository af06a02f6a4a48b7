/- Who is parted. -/
import Derived.Test.YtpffmfjphlaiaaaNetB
namespace Go.Proofs.Ytpffmfjphlaiaaa
open Go.RowKit

def inN (N a : Int) : Bool := decide (0 ≤ a ∧ a < N)
def pB (N : Int) (A : Nat → Nat → Bool) (a b : Int) : Bool := inN N a && inN N b && A a.toNat b.toNat
theorem inN_yes {N a : Int} (h0 : 0 ≤ a) (h1 : a < N) : inN N a = true := by simp [inN, h0, h1]
theorem inN_no {N a : Int} (h : ¬ (0 ≤ a ∧ a < N)) : inN N a = false := by simp [inN]; omega
theorem is_any (nb : Nat) (N a : Int) (w : World) (h : w.cell? ⟨nb, 0, none⟩ = some (.int .i64 N)) :
    Calls Try.prog 30 #[.pointer (some ⟨nb, 0, none⟩), .int .i64 a] w fun e w' => e = .returned (.bool (inN N a)) ∧ w = w' := is_yes nb N a w h

/-- Who is parted behind a Part or a Join. -/
def setA (A : Nat → Nat → Bool) (a b : Nat) (on : Bool) : Nat → Nat → Bool := fun i j => if (i = a ∧ j = b) ∨ (i = b ∧ j = a) then on else A i j
/-- May a and b be parted? -/
def pairOk (N a b : Int) : Bool := inN N a && inN N b && decide (a ≠ b)

set_option maxHeartbeats 2000000 in
theorem set_yes (nb : Nat) (N : Int) (L : List Pk) (A : Nat → Nat → Bool) (F : Nat → Prop) (a b : Int) (on : Bool) (w : World) (h : NetR w nb N L A F) (hp : pairOk N a b = true) :
    Calls Try.prog 21 #[.pointer (some ⟨nb, 0, none⟩), .int .i64 a, .int .i64 b, .bool on] w fun e w' => e = .returned (.int .i64 0) ∧ NetR w' nb N L (setA A a.toNat b.toNat on) F ∧ Fr F w w' := by
  obtain ⟨⟨cs, lv, vs, h1, h2, h3, h4, h5, h6⟩, ho, n1, n12, hr⟩ := h
  have c0 := h1.cell 0 h3
  simp only [pairOk, inN, Bool.and_eq_true, decide_eq_true_eq] at hp
  obtain ⟨⟨⟨ha0, ha1⟩, ⟨hb0, hb1⟩⟩, hne⟩ := hp
  obtain ⟨a, rfl⟩ := Int.eq_ofNat_of_zero_le ha0
  obtain ⟨b, rfl⟩ := Int.eq_ofNat_of_zero_le hb0
  have ea := Lib.hid (inN_yes ha0 ha1)
  have eb := Lib.hid (inN_yes hb0 hb1)
  have ca := h1.cell _ (h5 a b (by omega) (by omega))
  have cb := h1.cell _ (h5 b a (by omega) (by omega))
  have fa := h1.frozen (2 + a * 12 + b)
  have fb := h1.frozen (2 + b * 12 + a)
  have hA : (a : Int) < 12 := by omega
  have hB : (b : Int) < 12 := by omega
  have hne' : ((a : Int) == (b : Int)) = false := by simpa using hne
  have hne2 : 2 + a * 12 + b ≠ 2 + b * 12 + a := by omega
  have HR := Lib.hid (And.intro h1 (And.intro h5 h6))
  clear h1 h5 h6 hne
  go_enter Try.func21, Try.ntmps21
  go_wp2_with fail
  refine (is_any nb N a _ c0).mono ?_
  rintro e w1 ⟨rfl, rfl⟩
  rw [ea.out]
  go_wp2_with fail
  refine (is_any nb N b _ c0).mono ?_
  rintro e w1 ⟨rfl, rfl⟩
  rw [eb.out]
  go_wp2_with fail
  go_region
  go_wp2_with fail
  go_ret
  obtain ⟨h1, h5, h6⟩ := HR.out
  have hb := ((h1.set_ (2 + a * 12 + b) (.bool on)).set_ (2 + b * 12 + a) (.bool on)).drew
  have hf : Fr (fun k => k = nb) w ((w.setCell ⟨nb, 2 + a * 12 + b, none⟩ (.bool on)).setCell ⟨nb, 2 + b * 12 + a, none⟩ (.bool on)).drew := ((Fr.set1 w nb _ _).setCell (p := ⟨nb, 2 + b * 12 + a, none⟩) (fun _ => rfl) _).drew
  refine ⟨rfl, ⟨⟨_, lv, vs, hb, by simp [h2], ?_, ?_, ?_, ?_⟩, ho, n1, n12, hr⟩, hf.mono fun k _ e => by subst e; exact ho⟩
  · rw [Array.getElem?_setIfInBounds_ne (by omega), Array.getElem?_setIfInBounds_ne (by omega)]; exact h3
  · rw [Array.getElem?_setIfInBounds_ne (by omega), Array.getElem?_setIfInBounds_ne (by omega)]; exact h4
  · intro i j hi hj
    have hx := h5 i j hi hj
    have hlt : 2 + i * 12 + j < cs.size := (Array.getElem?_eq_some_iff.1 hx).1
    simp only [Int.toNat_natCast]
    unfold setA
    by_cases e2 : i = b ∧ j = a
    · obtain ⟨rfl, rfl⟩ := e2
      rw [Array.getElem?_setIfInBounds_self_of_lt (by simpa using hlt)]
      simp
    · rw [Array.getElem?_setIfInBounds_ne (by omega)]
      by_cases e1 : i = a ∧ j = b
      · obtain ⟨rfl, rfl⟩ := e1
        rw [Array.getElem?_setIfInBounds_self_of_lt hlt]
        simp
      · rw [Array.getElem?_setIfInBounds_ne (by omega), hx]
        rw [if_neg (by omega)]
  · have hrow : ∀ k, lv.ownBlock = some k → k ≠ nb := own_blk_ne h6.row h1 (by decide)
    refine ⟨h6.len, own_fr h6.row hf hrow, h6.rin, fun i p v hp hv => ?_, h6.apart⟩
    obtain ⟨q1, q2⟩ := h6.body i p v hp hv
    exact ⟨own_fr q1 hf (own_blk_ne q1 h1 (by decide)), q2⟩

set_option maxHeartbeats 1000000 in
theorem set_no (nb : Nat) (N : Int) (L : List Pk) (A : Nat → Nat → Bool) (F : Nat → Prop) (a b : Int) (on : Bool) (w : World) (h : NetR w nb N L A F) (hp : pairOk N a b = false) :
    Calls Try.prog 21 #[.pointer (some ⟨nb, 0, none⟩), .int .i64 a, .int .i64 b, .bool on] w fun e w' => e = .returned (.int .i64 2) ∧ w = w' := by
  obtain ⟨⟨cs, lv, vs, h1, h2, h3, h4, h5, h6⟩, ho, n1, n12, hr⟩ := h
  have c0 := h1.cell 0 h3
  clear h1 h5 h6
  by_cases ha : 0 ≤ a ∧ a < N
  · have ea := Lib.hid (inN_yes ha.1 ha.2)
    by_cases hb : 0 ≤ b ∧ b < N
    · have eb := Lib.hid (inN_yes hb.1 hb.2)
      have hab : a = b := by simpa [pairOk, inN_yes ha.1 ha.2, inN_yes hb.1 hb.2] using hp
      subst hab
      clear hp ha hb
      go_enter Try.func21, Try.ntmps21
      go_wp2_with fail
      refine (is_any nb N a _ c0).mono ?_
      rintro e w1 ⟨rfl, rfl⟩
      rw [ea.out]
      go_wp2_with fail
      refine (is_any nb N a _ c0).mono ?_
      rintro e w1 ⟨rfl, rfl⟩
      rw [eb.out]
      go_wp2_with fail
      go_ret
      exact ⟨rfl, rfl⟩
    · have eb := Lib.hid (inN_no hb)
      clear hp ha hb
      go_enter Try.func21, Try.ntmps21
      go_wp2_with fail
      refine (is_any nb N a _ c0).mono ?_
      rintro e w1 ⟨rfl, rfl⟩
      rw [ea.out]
      go_wp2_with fail
      refine (is_any nb N b _ c0).mono ?_
      rintro e w1 ⟨rfl, rfl⟩
      rw [eb.out]
      go_wp2_with fail
      go_ret
      exact ⟨rfl, rfl⟩
  · have ea := Lib.hid (inN_no ha)
    clear hp ha
    go_enter Try.func21, Try.ntmps21
    go_wp2_with fail
    refine (is_any nb N a _ c0).mono ?_
    rintro e w1 ⟨rfl, rfl⟩
    rw [ea.out]
    go_wp2_with fail
    go_ret
    exact ⟨rfl, rfl⟩

theorem set_nil (a b : Int) (on : Bool) (w : World) :
    Calls Try.prog 21 #[.pointer none, .int .i64 a, .int .i64 b, .bool on] w fun e w' => e = .returned (.int .i64 1) ∧ w = w' := by
  go_enter Try.func21, Try.ntmps21
  go_wp2_with fail
  go_ret
  exact ⟨rfl, rfl⟩
/-- What Part and Join answer, and who is parted behind them. -/
def setE (N a b : Int) : Int := if pairOk N a b then 0 else 2
def setP (N a b : Int) (A : Nat → Nat → Bool) (on : Bool) : Nat → Nat → Bool := if pairOk N a b then setA A a.toNat b.toNat on else A
theorem part_any (nb : Nat) (N : Int) (L : List Pk) (A : Nat → Nat → Bool) (F : Nat → Prop) (a b : Int) (w : World) (hR : NetR w nb N L A F) :
    Calls Try.prog 20 #[.pointer (some ⟨nb, 0, none⟩), .int .i64 a, .int .i64 b] w fun e w' => e = .returned (.int .i64 (setE N a b)) ∧ NetR w' nb N L (setP N a b A true) F ∧ Fr F w w' := by
  unfold setE setP
  cases hp : pairOk N a b with
  | true =>
    have H := Lib.hid hp
    clear hp
    go_enter Try.func20, Try.ntmps20
    go_wp2_with fail
    refine (set_yes nb N L A F a b true w hR H.out).mono ?_
    rintro e w1 ⟨rfl, h1, hf⟩
    go_wp2_with fail
    go_ret
    exact ⟨rfl, h1, hf⟩
  | false =>
    have H := Lib.hid hp
    clear hp
    go_enter Try.func20, Try.ntmps20
    go_wp2_with fail
    refine (set_no nb N L A F a b true w hR H.out).mono ?_
    rintro e w1 ⟨rfl, rfl⟩
    go_wp2_with fail
    go_ret
    exact ⟨rfl, hR, Fr.refl _ _⟩
theorem join_any (nb : Nat) (N : Int) (L : List Pk) (A : Nat → Nat → Bool) (F : Nat → Prop) (a b : Int) (w : World) (hR : NetR w nb N L A F) :
    Calls Try.prog 7 #[.pointer (some ⟨nb, 0, none⟩), .int .i64 a, .int .i64 b] w fun e w' => e = .returned (.int .i64 (setE N a b)) ∧ NetR w' nb N L (setP N a b A false) F ∧ Fr F w w' := by
  unfold setE setP
  cases hp : pairOk N a b with
  | true =>
    have H := Lib.hid hp
    clear hp
    go_enter Try.func7, Try.ntmps7
    go_wp2_with fail
    refine (set_yes nb N L A F a b false w hR H.out).mono ?_
    rintro e w1 ⟨rfl, h1, hf⟩
    go_wp2_with fail
    go_ret
    exact ⟨rfl, h1, hf⟩
  | false =>
    have H := Lib.hid hp
    clear hp
    go_enter Try.func7, Try.ntmps7
    go_wp2_with fail
    refine (set_no nb N L A F a b false w hR H.out).mono ?_
    rintro e w1 ⟨rfl, rfl⟩
    go_wp2_with fail
    go_ret
    exact ⟨rfl, hR, Fr.refl _ _⟩
theorem part_nil (a b : Int) (w : World) :
    Calls Try.prog 20 #[.pointer none, .int .i64 a, .int .i64 b] w fun e w' => e = .returned (.int .i64 1) ∧ w = w' := by
  go_enter Try.func20, Try.ntmps20
  go_wp2_with fail
  refine (set_nil a b true w).mono ?_
  rintro e w1 ⟨rfl, rfl⟩
  go_wp2_with fail
  go_ret
  exact ⟨rfl, rfl⟩
theorem join_nil (a b : Int) (w : World) :
    Calls Try.prog 7 #[.pointer none, .int .i64 a, .int .i64 b] w fun e w' => e = .returned (.int .i64 1) ∧ w = w' := by
  go_enter Try.func7, Try.ntmps7
  go_wp2_with fail
  refine (set_nil a b false w).mono ?_
  rintro e w1 ⟨rfl, rfl⟩
  go_wp2_with fail
  go_ret
  exact ⟨rfl, rfl⟩
end Go.Proofs.Ytpffmfjphlaiaaa
