/- For every input the law ProposePlays returns true, and each argument reads behind the call as it read before: over the walk in YtliljjlegofmkaaPRo,YtliljjlegofmkaaPU. -/
import Derived.Test.YtliljjlegofmkaaRows
import Derived.Test.YtliljjlegofmkaaPRo
import Derived.Test.YtliljjlegofmkaaPU
import Derived.WalkKit
import Derived.ProofKit
import Derived.OpenShut
import Derived.ShutString
import Derived.ChangeOld
import Derived.Below
namespace Go.Proofs.Ytliljjlegofmkaa.proposePlays
open Go.ChangeShapes Go.WideShapes Go.ChangeAt Go.RowKit
set_option linter.unusedVariables false

theorem own : ownKnob Try.prog.godebug = none := by kernel_rfl
theorem laidOut : laidOutB Try.prog = true := by kernel_rfl

set_option maxRecDepth 100000 in
theorem lifted (os : Os) (started : os.Started) (H : Type) (enc : TypeId × Value → H) :
    ReturnsInHanded {} Try.checked os 7 .any (Rows.proposePlaysSpec.pre6 enc Try.prog Try.f7 Rows.proposePlaysRow.domain false) (Rows.proposePlaysSpec.post enc Try.prog Try.f7 false true false false) := by
  refine returnsInHanded_of_change (C := Try.checked) own started (by kernel_rfl) Try.func7
    (ChangeSpec.witness6 (enc := enc) (C := Try.checked) false ⟨#[], #[.agg #[.int .i64 0, .int .i64 0, .int .i64 0, .int .i64 0, .slice none 0 0], .agg #[.int .u64 0, .int .i64 0], .int .u64 0, .slice none 0 0], []⟩ 8 (by kernel_rfl) (by kernel_rfl) (by kernel_rfl) (by kernel_rfl)) ?_
  intro W base args ds gs before hval0 hW hcnd _
  have hval : ∀ (j : Nat) t v, Try.f7.params[j]? = some t → args[j]? = some v → Value.okWide Try.prog W .any base t v := hval0
  have hW' := hW
  obtain ⟨p, q, hA0, hV, rfl, hfz, hnd⟩ := hW
  have hA : DataW.TrodAll enc Try.prog W 0 (fun _ => true) true Try.f7.params.toList args.toList ds p := hA0
  rw [Try.params7] at hA hval
  obtain ⟨v0, vs0, d0, ds0, p0, q0, hargs, rfl, rfl, h0, r0⟩ := trodAll_cons hA
  obtain ⟨v1, vs1, d1, ds1, p1, q1, rfl, rfl, rfl, h1, r1⟩ := trodAll_cons r0
  obtain ⟨v2, vs2, d2, ds2, p2, q2, rfl, rfl, rfl, h2, r2⟩ := trodAll_cons r1
  obtain ⟨v3, vs3, d3, ds3, p3, q3, rfl, rfl, rfl, h3, r3⟩ := trodAll_cons r2
  obtain ⟨rfl, rfl, rfl⟩ := trodAll_nil r3
  obtain rfl : args = #[v0, v1, v2, v3] := by cases args; simp_all
  obtain ⟨rfl, rfl⟩ := trodVars_none hV
  have k0 := h0
  have lt0 : ∀ x ∈ p0, x.block < W.heap.size := by obtain ⟨m, hm⟩ := k0; exact DataW.trod_lt m _ _ _ hm
  obtain ⟨cs0, rfl, hsz0⟩ := okWide_struct Try.underlying24 (hval 0 24 v0 rfl rfl)
  obtain ⟨q0', s0, hcs0, hb0, hl0, hnil0⟩ : ∃ (q : Qu) (s : Value), cs0.toList = [.int .i64 q.k, .int .i64 q.n, .int .i64 q.o, .int .i64 q.t, s] ∧ Ints W s q.s ∧ q.s.length ≤ maxLen ∧ ∀ c, s = .slice none 0 c → c = 0 := by obtain ⟨fuel, hf⟩ := h0; exact trod_qu hf
  obtain rfl : cs0 = #[.int .i64 q0'.k, .int .i64 q0'.n, .int .i64 q0'.o, .int .i64 q0'.t, s0] := by cases cs0; simp_all
  have k1 := h1
  have lt1 : ∀ x ∈ p1, x.block < W.heap.size := by obtain ⟨m, hm⟩ := k1; exact DataW.trod_lt m _ _ _ hm
  obtain ⟨cs1, rfl, hsz1⟩ := okWide_struct Try.underlying33 (hval 1 33 v1 rfl rfl)
  obtain ⟨n1, e1, hcs1, hn1, he1, he1'⟩ : ∃ (n : Nat) (d : Int), cs1.toList = [.int .u64 n, .int .i64 d] ∧ n < 18446744073709551616 ∧ -9223372036854775808 ≤ d ∧ d ≤ 9223372036854775807 := by obtain ⟨fuel, hf⟩ := h1; exact trod_bal hf
  obtain rfl : cs1 = #[.int .u64 n1, .int .i64 e1] := by cases cs1; simp_all
  obtain ⟨a2, rfl, rfl, rfl, w2⟩ := open_int Try.underlying31 (hval 2 31 v2 rfl rfl) h2
  obtain ⟨hu2, hv2⟩ := u64_of w2
  obtain ⟨x2, rfl⟩ := Int.eq_ofNat_of_zero_le hu2
  have k3 := h3
  have lt3 : ∀ x ∈ p3, x.block < W.heap.size := by obtain ⟨m, hm⟩ := k3; exact DataW.trod_lt m _ _ _ hm
  obtain ⟨a3, len3, cap3, rfl⟩ := okWide_slice Try.underlying54 (hval 3 54 v3 rfl rfl)
  obtain ⟨x3, l3, hcs3, hl3⟩ : ∃ v l, (Value.slice a3 len3 cap3).cells.toList = [v] ∧ AtL W v l (fun k => W.heap.size ≤ k) := by obtain ⟨fuel, hf⟩ := h3; exact trod_acts hf
  obtain rfl : Value.slice a3 len3 cap3 = x3 := by simpa [Value.cells] using hcs3
  clear hA0 hval0
  refine (plays_law q0' s0 n1 e1 x2 _ l3 W hb0 hnil0 hn1 (by omega) hl3).mono fun e W' ⟨he, bel⟩ => ?_
  subst he
  exact ⟨_, rfl, _, _, _, [], _, [], hW', trodAll_mk1 (shut_bool Try.underlying4 _), (trodAll_cons_mk (Below.trod laidOut (by kernel_rfl) (of_decide_eq_true (by kernel_rfl)) k0 bel lt0) (trodAll_cons_mk (Below.trod laidOut (by kernel_rfl) (of_decide_eq_true (by kernel_rfl)) k1 bel lt1) (trodAll_cons_mk (shut_int Try.underlying31 w2) (trodAll_cons_mk (Below.trod laidOut (by kernel_rfl) (of_decide_eq_true (by kernel_rfl)) k3 bel lt3) trodAll_mk0)))), rfl, bel.frame _, fun h => by cases h⟩

theorem over : Rows.proposePlaysRow.holds Try.pinned (OpenSpec.ofChange Rows.proposePlaysSpec) :=
  OpenClaim.holds_of_wide 7 Try.f7 rfl rfl rfl rfl rfl rfl rfl ⟨rfl, rfl, rfl, rfl, rfl⟩ rfl rfl rfl rfl rfl (by kernel_rfl) Try.func7 (by kernel_rfl)
    (of_decide_eq_true (by kernel_rfl)) (by unfold Func.isWrapper; first | (rw [if_pos (by decide +kernel)]; kernel_rfl) | (rw [if_neg (by decide +kernel)]; exact ⟨rfl, rfl⟩))
    (fun os started H enc _ => lifted os started H enc)

theorem proved : Rows.ProposePlaysSaid := over
#print axioms proved
end Go.Proofs.Ytliljjlegofmkaa.proposePlays
