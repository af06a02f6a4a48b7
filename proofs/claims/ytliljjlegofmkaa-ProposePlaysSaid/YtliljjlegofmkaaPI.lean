/- Top; those that are not there. -/
import Derived.Test.YtliljjlegofmkaaPG
import Derived.Test.YtliljjlegofmkaaPH
import Derived.Maps.RangeWalk
namespace Go.Proofs.Ytliljjlegofmkaa
open Go.RowKit Go.MapKept

/-- t is the last slot of which something has to be. -/
def TopAt (p : Ps) (t : Nat) : Prop := (∀ k, (p.mu k).isSome → k ≤ t) ∧ (t = 0 ∨ (p.mu t).isSome)
theorem TopAt.inj {p : Ps} {a b : Nat} (h : TopAt p a) (h' : TopAt p b) : a = b := by
  rcases h.2 with h1 | h1
  · rcases h'.2 with h2 | h2
    · omega
    · have := h.1 b h2; omega
  · have := h'.1 a h1
    rcases h'.2 with h2 | h2
    · omega
    · have := h.1 b h2; omega

/-- Any element reads as a mark. -/
def anyR (_ : Value) : Option (DataW Unit × List MemPlace) := some (.lit (.bool true), [])
theorem ranges_has {w : World} {b r n cnt : Nat} {D : DataW Unit} {left : Lit → Bool} (h : w.ranges Try.prog 31 anyR b r n D left cnt) {kl : Lit} (hl : left kl = true) : Maps.has D kl = true := by
  obtain ⟨es, cl, since, seen, c0, hb, hF, hs, rfl, _, _, _, _, h2, _⟩ := h
  obtain ⟨x, hx, rfl⟩ := h2 kl hl
  refine List.any_eq_true.2 ⟨_, mem_sorted.2 (List.mem_map.2 ⟨x, hx, rfl⟩), ?_⟩
  obtain ⟨y, hy⟩ := hF.reads x hx
  rw [Go.WideElems.rg_of hy]
  exact WideAt.sameKey_self (key64.key (Go.WideElems.rd_key hy))
set_option maxRecDepth 100000 in
theorem Mp.owns {w : World} {b n : Nat} {m : Nat → Option Value} (h : Mp w b n m) (hn : n ≤ maxLen) : ∃ D : DataW Unit, w.ownsMap Try.prog 31 anyR b n D ∧ ∀ kl : Lit, Maps.has D kl = true ↔ ∃ k : Nat, kl = .int .u64 (k : Int) ∧ (m k).isSome = true := by
  obtain ⟨es, cl, hb, h1, h2, h3, h4⟩ := h
  have hrd : ∀ x ∈ es.toList, ∃ k : Nat, x.key = .int .u64 (k : Int) ∧ (m k).isSome = true ∧ Go.WideElems.rd (H := Unit) Try.prog 31 anyR x = some (.int .u64 (k : Int), .lit (.bool true)) := fun x hx => by
    obtain ⟨k, hk, hx', hv⟩ := h3 x hx
    refine ⟨k, hx', by rw [hv]; rfl, ?_⟩
    unfold Go.WideElems.rd
    rw [hx', Maps.keyOf_int_mk Try.underlying31 (u64wf k hk)]
    rfl
  have hF : Go.WideElems.Fit Try.prog 31 anyR es cl := ⟨by omega, h1, fun x hx => by obtain ⟨k, _, _, h⟩ := hrd x hx; exact ⟨_, h⟩⟩
  refine ⟨_, ⟨es, cl, hb, hF, h2, rfl⟩, fun kl => ?_⟩
  constructor
  · intro h
    obtain ⟨q, hq, hqk⟩ := List.any_eq_true.1 h
    obtain ⟨x, hx, rfl⟩ := List.mem_map.1 (mem_sorted.1 hq)
    obtain ⟨k, _, hs, hr⟩ := hrd x hx
    have := WideAt.sameKey_eq hqk
    rw [Go.WideElems.rg_of hr] at this
    exact ⟨k, this.symm, hs⟩
  · rintro ⟨k, rfl, hs⟩
    obtain ⟨v, hv⟩ := Option.isSome_iff_exists.1 hs
    obtain ⟨x, hx, hxk⟩ := h4 k v hv
    obtain ⟨k', hk', _, hr⟩ := hrd x hx
    have hkk : (k : Int) = (k' : Int) := by rw [hxk] at hk'; injection hk'
    rw [hkk]
    refine List.any_eq_true.2 ⟨_, mem_sorted.2 (List.mem_map.2 ⟨x, hx, rfl⟩), ?_⟩
    rw [Go.WideElems.rg_of hr]
    exact WideAt.sameKey_self trivial

set_option maxRecDepth 100000 in
set_option maxHeartbeats 4000000 in
theorem top_any (r : Nat) (p : Ps) (c : Nat) (G : Nat → Prop) (w : World) (h : PR w r p c G) (hc : c ≤ maxLen) :
    Calls Try.prog 30 #[.pointer (some ⟨r, 0, none⟩)] w fun e w' => (∃ t : Nat, TopAt p t ∧ e = .returned (.int .u64 (t : Int))) ∧ Fr (fun _ => False) w w' := by
  obtain ⟨sv, mb, sb, mm, sm, h⟩ := h
  have c9 : w.cell? ⟨r, 9, none⟩ = some (.map (some mb)) := h.blk.cell 9 rfl
  obtain ⟨D, hown, hD⟩ := h.mus.owns hc
  have hmu : ∀ k, (mm k).isSome = (p.mu k).isSome := fun k => by
    rcases h.mu k with ⟨h1, h2⟩ | ⟨v, nd, s, h1, h2, _⟩
    · rw [h1, h2]; rfl
    · rw [h1, h2]; rfl
  have h64 : ∀ k, (mm k).isSome = true → k < 18446744073709551616 := fun k hk => by
    obtain ⟨v, hv⟩ := Option.isSome_iff_exists.1 hk
    exact h.mus.u64 hv
  have HM := Lib.hid (And.intro hmu (And.intro hD h64))
  have hmb := Lib.hid h.mus.lt
  clear h hmu hD h64
  go_enter Try.func30, Try.ntmps30
  go_wp2_with (first
    | (at_range
       refine wpList_range_own _ rfl _ 77 rfl 31 84 key64 Try.underlying77 anyR mb c D rfl hown ?_
       intro w0 hrg0 hg0 hs0)
    | go_in)
  go_frame
  have hf0 : Fr (fun _ => False) w w0 := (Fr.refl _ w).grown hg0 (fun k hk => by cases hk)
  clear hg0 hs0 c9 hown
  go_loopg [3] (Maps.size D) (fun g x3 wr => ∃ (left : Lit → Bool) (t : Nat), wr.ranges Try.prog 31 anyR mb w.heap.size c D left g ∧ x3 = .int .u64 t ∧ t < 18446744073709551616 ∧
    (∀ k : Nat, (mm k).isSome = true → left (.int .u64 (k : Int)) = true ∨ k ≤ t) ∧ (t = 0 ∨ (mm t).isSome = true) ∧ Fr (fun _ => False) w wr)
  case atStart => exact ⟨_, 0, hrg0, rfl, by omega, fun k hk => .inl ((HM.out.2.1 _).2 ⟨k, rfl, hk⟩), .inl rfl, hf0⟩
  case round =>
    clear hrg0 hf0
    obtain ⟨left, t, hrg, rfl, ht64, hall, hin, hfr⟩ := hrel
    have HA := Lib.hid (And.intro hall (And.intro hin hfr))
    clear hall hin hfr
    go_wp2_with (first
      | (at_next
         refine wpList_next_ranges _ rfl _ rfl 31 key64 anyR (fun x : Int => Value.int .u64 x) (fun v : Value => v) (fun key kl hk => by obtain ⟨x, hx, _⟩ := Maps.keyOf_int_inv Try.underlying31 hk; exact ⟨x, hx⟩) (fun v y _ => ⟨v, rfl⟩) mb w.heap.size c D left _ rfl hrg ?_ ?_)
      | go_in)
    · intro hc0 hl0
      have HL := Lib.hid hl0
      have HC := Lib.hid hc0
      clear hc0 hl0 hrg
      go_wp2_with fail
      go_ret
      obtain ⟨hall, hin, hfr⟩ := HA.out
      refine ⟨⟨t, ⟨fun k hk => ?_, ?_⟩, rfl⟩, hfr⟩
      · rcases hall k (by rw [HM.out.1]; exact hk) with h | h
        · rw [HL.out] at h; cases h
        · exact h
      · rcases hin with h | h
        · exact .inl h
        · exact .inr (by rw [← HM.out.1]; exact h)
    · intro x v kl y y2 w1 cnt1 hkey hlx hR hat hrg1 hlt hg1 hs1 hen
      obtain ⟨k, rfl, hk⟩ := (HM.out.2.1 kl).1 (ranges_has hrg hlx)
      obtain ⟨x', ex, ek, _⟩ := Maps.keyOf_int_inv Try.underlying31 hkey
      injection ek with _ ek
      injection ex with _ ex
      subst ex
      subst ek
      have hk64 := HM.out.2.2 k hk
      have HN := Lib.hid (And.intro hrg1 (And.intro hlt (And.intro hg1 hk)))
      clear hrg hrg1 hlt hg1 hs1 hat hR hkey hlx hk
      have hstep : ∀ t', t ≤ t' → k ≤ t' → ∀ j : Nat, (mm j).isSome = true → (left (.int .u64 (j : Int)) && !(Lit.int .u64 (j : Int)).sameKey (.int .u64 (k : Int))) = true ∨ j ≤ t' := by
        intro t' h1 h2 j hj
        rcases HA.out.1 j hj with h | h
        · by_cases hjk : j = k
          · exact .inr (by omega)
          · left
            rw [h, Bool.true_and, Bool.not_eq_true', ← Bool.not_eq_true]
            intro e
            have := WideAt.sameKey_eq e
            injection this with _ this
            omega
        · exact .inr (by omega)
      have HS := Lib.hid hstep
      clear hstep
      by_cases htk : t < k
      · have htk' : (t : Int) < (k : Int) := by omega
        go_wp2_with fail
        go_roundg cnt1
        case measure => exact HN.out.2.1
        case rel =>
          obtain ⟨hrg1, _, hg1, hk⟩ := HN.out
          exact ⟨_, k, hrg1, rfl, hk64, HS.out k (by omega) (Nat.le_refl _), .inr hk, HA.out.2.2.grown hg1 (fun j hj hlt => by injection hj with hj; omega)⟩
      · have htk' : ¬ (t : Int) < (k : Int) := by omega
        go_wp2_with fail
        go_roundg cnt1
        case measure => exact HN.out.2.1
        case rel =>
          obtain ⟨hrg1, _, hg1, hk⟩ := HN.out
          exact ⟨_, t, hrg1, rfl, ht64, HS.out t (Nat.le_refl _) (by omega), HA.out.2.1, HA.out.2.2.grown hg1 (fun j hj hlt => by injection hj with hj; omega)⟩

/-! ### those that are not there -/
def zeroVt : Vt := ⟨0, 0, 0, []⟩
theorem ready_nil (w : World) : Calls Try.prog 15 #[.pointer none] w fun e w' => e = .returned (.bool false) ∧ Fr (fun _ => False) w w' := by
  go_enter Try.func15, Try.ntmps15
  go_upto_region 1 with (fail)
  go_region
  go_wp2_with fail
  go_ret
  exact ⟨rfl, (Fr.refl _ w).drew⟩
theorem must_nil (k : Nat) (w : World) : Calls Try.prog 29 #[.pointer none, .int .u64 k] w fun e w' => e = .returned (.tuple #[.slice none 0 0, .bool false]) ∧ w = w' := by
  go_enter Try.func29, Try.ntmps29
  go_wp2_with fail
  go_ret2
  exact ⟨rfl, rfl⟩
theorem chosen_nil (k : Nat) (w : World) : Calls Try.prog 19 #[.pointer none, .int .u64 k] w fun e w' => e = .returned (.tuple #[.slice none 0 0, .bool false]) ∧ w = w' := by
  go_enter Try.func19, Try.ntmps19
  go_wp2_with fail
  go_ret2
  exact ⟨rfl, rfl⟩
theorem top_nil (w : World) : Calls Try.prog 30 #[.pointer none] w fun e w' => e = .returned (.int .u64 0) ∧ w = w' := by
  go_enter Try.func30, Try.ntmps30
  go_wp2_with fail
  go_ret
  exact ⟨rfl, rfl⟩
theorem prefix_nil (w : World) : Calls Try.prog 25 #[.pointer none] w fun e w' => e = .returned (.int .u64 0) ∧ w = w' := by
  go_enter Try.func25, Try.ntmps25
  go_wp2_with fail
  go_ret
  exact ⟨rfl, rfl⟩
theorem acc_nil (x : Int) (k : Nat) (w : World) : Calls Try.prog 18 #[.pointer none, .int .i64 x, .int .u64 k] w fun e w' => e = .returned (.int .i64 1) ∧ w = w' := by
  go_enter Try.func18, Try.ntmps18
  go_wp2_with fail
  go_ret
  exact ⟨rfl, rfl⟩
end Go.Proofs.Ytliljjlegofmkaa
