/- For every input the law ProposeNil returns true, and each argument reads behind the call as it read before: over the walk in YtliljjlegofmkaaPNil. -/
import Derived.Test.YtliljjlegofmkaaRows
import Derived.Test.YtliljjlegofmkaaPNil
import Derived.WalkKit
import Derived.ProofKit
import Derived.OpenShut
import Derived.ShutString
import Derived.ChangeOld
import Derived.Below
namespace Go.Proofs.Ytliljjlegofmkaa.proposeNil
open Go.ChangeShapes Go.WideShapes Go.ChangeAt Go.RowKit
set_option linter.unusedVariables false

theorem own : ownKnob Try.prog.godebug = none := by kernel_rfl
theorem laidOut : laidOutB Try.prog = true := by kernel_rfl

set_option maxRecDepth 100000 in
theorem lifted (os : Os) (started : os.Started) (H : Type) (enc : TypeId × Value → H) :
    ReturnsInHanded {} Try.checked os 9 .any (Rows.proposeNilSpec.pre6 enc Try.prog Try.f9 Rows.proposeNilRow.domain false) (Rows.proposeNilSpec.post enc Try.prog Try.f9 false true false false) := by
  refine returnsInHanded_of_change (C := Try.checked) own started (by kernel_rfl) Try.func9
    (ChangeSpec.witness6 (enc := enc) (C := Try.checked) false ⟨#[], #[.agg #[.int .i64 0, .int .i64 0, .int .u64 0, .slice none 0 0, .slice none 0 0]], []⟩ 8 (by kernel_rfl) (by kernel_rfl) (by kernel_rfl) (by kernel_rfl)) ?_
  intro W base args ds gs before hval0 hW hcnd _
  have hval : ∀ (j : Nat) t v, Try.f9.params[j]? = some t → args[j]? = some v → Value.okWide Try.prog W .any base t v := hval0
  have hW' := hW
  obtain ⟨p, q, hA0, hV, rfl, hfz, hnd⟩ := hW
  have hA : DataW.TrodAll enc Try.prog W 0 (fun _ => true) true Try.f9.params.toList args.toList ds p := hA0
  rw [Try.params9] at hA hval
  obtain ⟨v0, vs0, d0, ds0, p0, q0, hargs, rfl, rfl, h0, r0⟩ := trodAll_cons hA
  obtain ⟨rfl, rfl, rfl⟩ := trodAll_nil r0
  obtain rfl : args = #[v0] := by cases args; simp_all
  obtain ⟨rfl, rfl⟩ := trodVars_none hV
  have k0 := h0
  have lt0 : ∀ x ∈ p0, x.block < W.heap.size := by obtain ⟨m, hm⟩ := k0; exact DataW.trod_lt m _ _ _ hm
  obtain ⟨cs0, rfl, hsz0⟩ := okWide_struct Try.underlying58 (hval 0 58 v0 rfl rfl)
  obtain ⟨x0, os0, vs0', hcs0, ho0, hol0, hox0, hv0, hs0⟩ : ∃ (x : At) (os vs : Value), cs0.toList = [.int .i64 x.k, .int .i64 x.n, .int .u64 x.s, os, vs] ∧ Byt W os x.o ∧ x.o.length ≤ maxLen ∧ (∀ k, os.ownBlock = some k → x.o ≠ [] → k < W.heap.size) ∧ VtL W vs x.v (fun k => W.heap.size ≤ k) ∧ x.s < 18446744073709551616 := by obtain ⟨fuel, hf⟩ := h0; exact trod_act hf
  obtain rfl : cs0 = #[.int .i64 x0.k, .int .i64 x0.n, .int .u64 x0.s, os0, vs0'] := by cases cs0; simp_all
  clear hA0 hval0
  refine (nil_any x0 os0 vs0' W ho0 hv0).mono fun e W' ⟨he, bel⟩ => ?_
  subst he
  exact ⟨_, rfl, _, _, _, [], _, [], hW', trodAll_mk1 (shut_bool Try.underlying4 _), (trodAll_cons_mk (Below.trod laidOut (by kernel_rfl) (of_decide_eq_true (by kernel_rfl)) k0 bel lt0) trodAll_mk0), rfl, bel.frame _, fun h => by cases h⟩

theorem over : Rows.proposeNilRow.holds Try.pinned (OpenSpec.ofChange Rows.proposeNilSpec) :=
  OpenClaim.holds_of_wide 9 Try.f9 rfl rfl rfl rfl rfl rfl rfl ⟨rfl, rfl, rfl, rfl, rfl⟩ rfl rfl rfl rfl rfl (by kernel_rfl) Try.func9 (by kernel_rfl)
    (of_decide_eq_true (by kernel_rfl)) (by unfold Func.isWrapper; first | (rw [if_pos (by decide +kernel)]; kernel_rfl) | (rw [if_neg (by decide +kernel)]; exact ⟨rfl, rfl⟩))
    (fun os started H enc _ => lifted os started H enc)

theorem proved : Rows.ProposeNilSaid := over
#print axioms proved
end Go.Proofs.Ytliljjlegofmkaa.proposeNil
