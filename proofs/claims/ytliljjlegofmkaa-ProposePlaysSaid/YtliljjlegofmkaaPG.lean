/- Chosen, Accepted, Prefix. -/
import Derived.Test.YtliljjlegofmkaaPF
namespace Go.Proofs.Ytliljjlegofmkaa
open Go.RowKit

theorem wrap64u (n : Int) : IntKind.u64.wrap n = n % 18446744073709551616 := by
  simp [IntKind.wrap, IntKind.signed, IntKind.bits]

set_option maxRecDepth 100000 in
set_option maxHeartbeats 4000000 in
theorem chosen_any (r : Nat) (p : Ps) (c : Nat) (G : Nat → Prop) (k : Nat) (hk : k < 18446744073709551616) (w : World) (h : PR w r p c G) :
    Calls Try.prog 19 #[.pointer (some ⟨r, 0, none⟩), .int .u64 k] w fun e w' => ResB w w' (chB p k) e := by
  obtain ⟨sv, mb, sb, mm, sm, h⟩ := h
  have c10 : w.cell? ⟨r, 10, none⟩ = some (.map (some sb)) := h.blk.cell 10 rfl
  have hlk := h.sls.look key64 Try.underlying31 Try.underlying78 (zero_slot w) k hk
  have hv := h.wf.sl k
  have hl := h.wf.ql
  unfold ResB chB
  rcases h.sl k with ⟨hm, hy⟩ | ⟨v, X, g, s, hm, hy, hB, hg, ho⟩
  · rw [hy] at hlk
    rw [hm]
    simp only [Option.getD_none, Option.isSome_none, Option.bind_none, List.length_nil] at hlk ⊢
    clear h hv hm hy
    go_enter Try.func19, Try.ntmps19
    go_upto_region 4 with (fail)
    go_region
    go_wp2_with fail
    go_ret2
    exact ⟨none, 0, rfl, World.ownsRow_nil _ _ _ _, (Fr.refl _ w).drew⟩
  · rw [hy] at hlk
    rw [hm]
    obtain ⟨-, -, hvl, hX, -⟩ := hv v X hm
    simp only [Option.getD_some, Option.isSome_some, Option.bind_some] at hlk ⊢
    have hby := ho.byt
    have hby0 := hby
    obtain ⟨A, cc, rfl, -, -⟩ := hby0
    have hs := ints_own h.site
    have HC := Lib.hid (fun (s : Value) => second_any p.q s X (by omega))
    obtain ⟨q, n, d, f, set, mu, sl⟩ := p
    obtain ⟨qk, N, o, t, l⟩ := q
    simp only at hl hs HC ⊢
    have c0 : w.cell? ⟨r, 0, none⟩ = some (.int .i64 qk) := h.blk.cell 0 rfl
    have c1 : w.cell? ⟨r, 1, none⟩ = some (.int .i64 N) := h.blk.cell 1 rfl
    have c2 : w.cell? ⟨r, 2, none⟩ = some (.int .i64 o) := h.blk.cell 2 rfl
    have c3 : w.cell? ⟨r, 3, none⟩ = some (.int .i64 t) := h.blk.cell 3 rfl
    have c4 : w.cell? ⟨r, 4, none⟩ = some sv := h.blk.cell 4 rfl
    have g3 : w.cell? ⟨g, 3, none⟩ = some (.slice A v.v.length cc) := hB.cell 3 rfl
    have g4 : w.cell? ⟨g, 4, none⟩ = some (.int .u32 X) := hB.cell 4 rfl
    obtain ⟨Z, hZ⟩ : ∃ Z, Z = (if isQ ⟨qk, N, o, t, l⟩ true X.testBit = true then some v.v else none) := ⟨_, rfl⟩
    rw [← hZ]
    have HZ := Lib.hid hZ
    clear hZ
    have hs0 := hs
    obtain ⟨B, bc, rfl, -⟩ := hs0
    have HS := Lib.hid (And.intro hs hby)
    clear h hv hm hy ho hB hby hs
    go_enter Try.func19, Try.ntmps19
    go_upto_region 4 with (fail)
    go_region_held3 (fun wx => Fr (fun _ => False) w wx ∧ wx.cell? ⟨r, 0, none⟩ = some (.int .i64 qk) ∧ wx.cell? ⟨r, 1, none⟩ = some (.int .i64 N) ∧ wx.cell? ⟨r, 2, none⟩ = some (.int .i64 o) ∧ wx.cell? ⟨r, 3, none⟩ = some (.int .i64 t) ∧ wx.cell? ⟨r, 4, none⟩ = some (.slice B l.length bc) ∧ wx.cell? ⟨g, 4, none⟩ = some (.int .u32 X)) (first | exact ⟨(Fr.refl _ _).drew, c0, c1, c2, c3, c4, g4⟩ | exact hS4)
      (first
        | (go_at_call 38
           refine (HC.out _ _ (HS.out.1.up ((Fr.refl _ w).drew)) hl).mono ?_
           rintro e w4 ⟨rfl, hf4⟩
           have hf5 := hf4.of_drew
           have hS4 : Fr (fun _ => False) w w4 ∧ w4.cell? ⟨r, 0, none⟩ = some (.int .i64 qk) ∧ w4.cell? ⟨r, 1, none⟩ = some (.int .i64 N) ∧ w4.cell? ⟨r, 2, none⟩ = some (.int .i64 o) ∧ w4.cell? ⟨r, 3, none⟩ = some (.int .i64 t) ∧ w4.cell? ⟨r, 4, none⟩ = some (.slice B l.length bc) ∧ w4.cell? ⟨g, 4, none⟩ = some (.int .u32 X) :=
             ⟨hf5, hf5.cell c0 (fun h => h), hf5.cell c1 (fun h => h), hf5.cell c2 (fun h => h), hf5.cell c3 (fun h => h), hf5.cell c4 (fun h => h), hf5.cell g4 (fun h => h)⟩))
    all_goals
      have hby4 := HS.out.2.fr hf5 (fun _ _ h => h)
      have a0 : (w4.alloc (.cells #[] 5)).cell? ⟨g, 3, none⟩ = some (.slice A v.v.length cc) := al_cell (hf5.cell g3 (fun h => h)) _
      have HF := Lib.hid hf5
      clear c0 c1 c2 c3 c4 g3 g4 hS4 c10 hlk hf4 hf5
      cases hq : isQ ⟨qk, N, o, t, l⟩ true X.testBit with
      | false =>
        have HQ := Lib.hid hq
        clear hq
        go_wp2_with fail
        go_ret2
        rw [HZ.out, HQ.out]
        exact ⟨none, 0, rfl, World.ownsRow_nil _ _ _ _, HF.out⟩
      | true =>
        have HQ := Lib.hid hq
        clear hq
        go_wp2_with (first
          | (at_builtin
             refine wpList_bi2 rfl .append _ _ _ _ _ rfl rfl rfl _ (ap_new w4 _ v.v hby4 (by omega) _) ?_
             rintro v' w5 hN
             obtain ⟨va, vc, rfl, ho, hf2⟩ := hN.res HF.out))
        go_ret2
        rw [HZ.out, HQ.out]
        exact ⟨va, vc, rfl, ho, hf2⟩

/-- Is it chosen there? -/
def isCh (p : Ps) (k : Nat) : Bool := (chB p k).isSome
theorem isCh_big {w : World} {G : Nat → Prop} {r c : Nat} {p : Ps} (h : PR w r p c G) : isCh p 18446744073709551616 = false := by
  cases hs : p.sl 18446744073709551616 with
  | none => simp [isCh, chB, hs]
  | some x => have := (h.wf.sl _ x.1 x.2 hs).2.1; omega
/-- at is the first that is not chosen. -/
def PreAt (p : Ps) (at' : Nat) : Prop := p.f ≤ at' ∧ (∀ j, p.f ≤ j → j < at' → isCh p j = true) ∧ isCh p at' = false
theorem PreAt.inj {p : Ps} {a b : Nat} (h : PreAt p a) (h' : PreAt p b) : a = b := by
  rcases Nat.lt_trichotomy a b with hl | hl | hl
  · have := h'.2.1 a h.1 hl; rw [h.2.2] at this; cases this
  · exact hl
  · have := h.2.1 b h'.1 hl; rw [h'.2.2] at this; cases this

set_option maxRecDepth 100000 in
set_option maxHeartbeats 4000000 in
theorem prefix_any (r : Nat) (p : Ps) (c : Nat) (G : Nat → Prop) (w : World) (h : PR w r p c G) :
    Calls Try.prog 25 #[.pointer (some ⟨r, 0, none⟩)] w fun e w' => (∃ at' : Nat, at' ≤ 18446744073709551616 ∧ PreAt p at' ∧ e = .returned (.int .u64 ((at' - 1 : Nat) : Int))) ∧ Fr (fun _ => False) w w' := by
  have hx := h
  obtain ⟨sv, mb, sb, mm, sm, hx⟩ := hx
  have c7 : w.cell? ⟨r, 7, none⟩ = some (.int .u64 p.f) := hx.blk.cell 7 rfl
  have hf1 := hx.wf.f1
  have hf64 := hx.wf.f64
  have hbig := Lib.hid (isCh_big h)
  obtain ⟨f, hf⟩ : ∃ f, f = p.f := ⟨_, rfl⟩
  rw [← hf] at c7 hf1 hf64
  have HFF := Lib.hid hf
  clear hx hf
  go_enter Try.func25, Try.ntmps25
  go_wp2_with fail
  go_loopg [3] (18446744073709551616 - f) (fun g x3 wr => ∃ (j : Nat), j + g = 18446744073709551616 ∧ x3 = .int .u64 ((j % 18446744073709551616 : Nat) : Int) ∧ f ≤ j ∧ (∀ i, f ≤ i → i < j → isCh p i = true) ∧ Fr (fun _ => False) w wr)
  case atStart => exact ⟨f, by omega, by rw [Nat.mod_eq_of_lt hf64], Nat.le_refl _, fun i h1 h2 => by omega, Fr.refl _ _⟩
  case round =>
    obtain ⟨j, hj, rfl, hjf, hall, hfr⟩ := hrel
    have hj' : j ≤ 18446744073709551616 := by omega
    have HJ := Lib.hid (And.intro hj hall)
    obtain ⟨J, hJ⟩ : ∃ J, J = j % 18446744073709551616 := ⟨_, rfl⟩
    rw [← hJ]
    have hJ64 : J < 18446744073709551616 := by omega
    have HJJ := Lib.hid hJ
    clear hj hall hJ c7
    go_upto_region 4 with (fail)
    go_wp2_with fail
    refine (chosen_any r p c G J hJ64 wr (h.none_ hfr)).mono ?_
    rintro e w2 ⟨va, vc, rfl, -, hf2⟩
    have hfr2 := hfr.tr hf2
    have hlow : isCh p 0 = false := by
      cases hs : p.sl 0 with
      | none => simp [isCh, chB, hs]
      | some x => have := (h.wf.sl _ x.1 x.2 hs).2.2.2.2.1; have := h.wf.f1; omega
    cases hc : (chB p J).isSome with
    | false =>
      have HC := Lib.hid (show isCh p J = false from hc)
      clear hc hlow
      go_wp2_with fail
      go_ret
      refine ⟨⟨j, hj', ⟨by rw [← HFF.out]; exact hjf, fun i h1 h2 => HJ.out.2 i (by rw [HFF.out]; exact h1) h2, ?_⟩, ?_⟩, hfr2⟩
      · have hJ := HJJ.out
        by_cases hh : j < 18446744073709551616
        · rw [Nat.mod_eq_of_lt hh] at hJ
          rw [← hJ]; exact HC.out
        · obtain rfl : j = 18446744073709551616 := by omega
          exact hbig.out
      · have hJ := HJJ.out
        show Ending.returned (.int .u64 _) = _
        congr 2
        rw [wrap64u]
        omega
    | true =>
      have hjlt : j < 18446744073709551616 := by
        rcases Nat.lt_or_ge j 18446744073709551616 with h1 | h1
        · exact h1
        · have hJ0 : J = 0 := by have := HJJ.out; omega
          rw [hJ0] at hc
          rw [show (chB p 0).isSome = isCh p 0 from rfl, hlow] at hc
          cases hc
      have HC := Lib.hid (show isCh p J = true from hc)
      clear hc hlow
      go_wp2_with fail
      go_roundg (18446744073709551616 - (j + 1))
      case measure => have := HJ.out; omega
      case rel =>
        have hJ := HJJ.out
        rw [Nat.mod_eq_of_lt hjlt] at hJ
        refine ⟨j + 1, by omega, ?_, by omega, fun i h1 h2 => ?_, hfr2⟩
        · congr 1
          rw [wrap64u]
          omega
        · by_cases hij : i < j
          · exact HJ.out.2 i h1 hij
          · have : i = J := by omega
            rw [this]; exact HC.out
end Go.Proofs.Ytliljjlegofmkaa
