/- For every input the law SynodEnds returns true, and each argument reads behind the call as it read before: over the walk in YtkpfgoalohbfeaaSYe. -/
import Derived.Test.YtkpfgoalohbfeaaRows
import Derived.Test.YtkpfgoalohbfeaaSYe
import Derived.WalkKit
import Derived.ProofKit
import Derived.OpenShut
import Derived.ShutString
import Derived.ChangeOld
import Derived.Below
namespace Go.Proofs.Ytkpfgoalohbfeaa.synodEnds
open Go.ChangeShapes Go.WideShapes Go.ChangeAt Go.RowKit
set_option linter.unusedVariables false

theorem own : ownKnob Try.prog.godebug = none := by kernel_rfl
theorem laidOut : laidOutB Try.prog = true := by kernel_rfl

set_option maxRecDepth 100000 in
theorem lifted (os : Os) (started : os.Started) (H : Type) (enc : TypeId × Value → H) :
    ReturnsInHanded {} Try.checked os 6 .any (Rows.synodEndsSpec.pre6 enc Try.prog Try.f6 Rows.synodEndsRow.domain false) (Rows.synodEndsSpec.post enc Try.prog Try.f6 false true false false) := by
  refine returnsInHanded_of_change (C := Try.checked) own started (by kernel_rfl) Try.func6
    (ChangeSpec.witness6 (enc := enc) (C := Try.checked) false ⟨#[], #[.agg #[.int .i64 0, .int .i64 0, .int .i64 0, .int .i64 0, .slice none 0 0], .slice none 0 0, .int .i64 0, .slice none 0 0], []⟩ 8 (by kernel_rfl) (by kernel_rfl) (by kernel_rfl) (by kernel_rfl)) ?_
  intro W base args ds gs before hval0 hW hcnd _
  have hval : ∀ (j : Nat) t v, Try.f6.params[j]? = some t → args[j]? = some v → Value.okWide Try.prog W .any base t v := hval0
  have hW' := hW
  obtain ⟨p, q, hA0, hV, rfl, hfz, hnd⟩ := hW
  have hA : DataW.TrodAll enc Try.prog W 0 (fun _ => true) true Try.f6.params.toList args.toList ds p := hA0
  rw [Try.params6] at hA hval
  obtain ⟨v0, vs0, d0, ds0, p0, q0, hargs, rfl, rfl, h0, r0⟩ := trodAll_cons hA
  obtain ⟨v1, vs1, d1, ds1, p1, q1, rfl, rfl, rfl, h1, r1⟩ := trodAll_cons r0
  obtain ⟨v2, vs2, d2, ds2, p2, q2, rfl, rfl, rfl, h2, r2⟩ := trodAll_cons r1
  obtain ⟨v3, vs3, d3, ds3, p3, q3, rfl, rfl, rfl, h3, r3⟩ := trodAll_cons r2
  obtain ⟨rfl, rfl, rfl⟩ := trodAll_nil r3
  obtain rfl : args = #[v0, v1, v2, v3] := by cases args; simp_all
  obtain ⟨rfl, rfl⟩ := trodVars_none hV
  have k0 := h0
  have lt0 : ∀ x ∈ p0, x.block < W.heap.size := by obtain ⟨m, hm⟩ := k0; exact DataW.trod_lt m _ _ _ hm
  obtain ⟨cs0, rfl, hsz0⟩ := okWide_struct Try.underlying24 (hval 0 24 v0 rfl rfl)
  obtain ⟨q0', s0, hcs0, hb0, hl0, hnil0⟩ : ∃ (q : Qu) (s : Value), cs0.toList = [.int .i64 q.k, .int .i64 q.n, .int .i64 q.o, .int .i64 q.t, s] ∧ Ints W s q.s ∧ q.s.length ≤ maxLen ∧ ∀ c, s = .slice none 0 c → c = 0 := by obtain ⟨fuel, hf⟩ := h0; exact trod_qu hf
  obtain rfl : cs0 = #[.int .i64 q0'.k, .int .i64 q0'.n, .int .i64 q0'.o, .int .i64 q0'.t, s0] := by cases cs0; simp_all
  have k1 := h1
  have lt1 : ∀ x ∈ p1, x.block < W.heap.size := by obtain ⟨m, hm⟩ := k1; exact DataW.trod_lt m _ _ _ hm
  obtain ⟨a1, len1, cap1, rfl⟩ := okWide_slice Try.underlying25 (hval 1 25 v1 rfl rfl)
  obtain ⟨x1, l1, hcs1, hl1⟩ : ∃ v l, (Value.slice a1 len1 cap1).cells.toList = [v] ∧ AcL W v l (fun k => W.heap.size ≤ k) := by obtain ⟨fuel, hf⟩ := h1; exact trod_acl hf
  obtain rfl : Value.slice a1 len1 cap1 = x1 := by simpa [Value.cells] using hcs1
  obtain ⟨a2, rfl, rfl, rfl, w2⟩ := open_int Try.underlying3 (hval 2 3 v2 rfl rfl) h2
  have k3 := h3
  have lt3 : ∀ x ∈ p3, x.block < W.heap.size := by obtain ⟨m, hm⟩ := k3; exact DataW.trod_lt m _ _ _ hm
  obtain ⟨a3, len3, cap3, rfl⟩ := okWide_slice Try.underlying31 (hval 3 31 v3 rfl rfl)
  obtain ⟨x3, l3, hcs3, hl3⟩ : ∃ v l, (Value.slice a3 len3 cap3).cells.toList = [v] ∧ Byt W v l ∧ l.length ≤ maxLen ∧ ∀ k, v.ownBlock = some k → l ≠ [] → k < W.heap.size := by obtain ⟨fuel, hf⟩ := h3; exact trod_byt hf
  obtain rfl : Value.slice a3 len3 cap3 = x3 := by simpa [Value.cells] using hcs3
  clear hA0 hval0
  refine (ends_law q0' s0 _ l1 a2 _ l3 W hb0 hnil0 hl0 hl1 hl3.1 hl3.2.1 hl3.2.2).mono fun e W' ⟨he, bel⟩ => ?_
  subst he
  exact ⟨_, rfl, _, _, _, [], _, [], hW', trodAll_mk1 (shut_bool Try.underlying4 _), (trodAll_cons_mk (Below.trod laidOut (by kernel_rfl) (of_decide_eq_true (by kernel_rfl)) k0 bel lt0) (trodAll_cons_mk (Below.trod laidOut (by kernel_rfl) (of_decide_eq_true (by kernel_rfl)) k1 bel lt1) (trodAll_cons_mk (shut_int Try.underlying3 w2) (trodAll_cons_mk (Below.trod laidOut (by kernel_rfl) (of_decide_eq_true (by kernel_rfl)) k3 bel lt3) trodAll_mk0)))), rfl, bel.frame _, fun h => by cases h⟩

theorem over : Rows.synodEndsRow.holds Try.pinned (OpenSpec.ofChange Rows.synodEndsSpec) :=
  OpenClaim.holds_of_wide 6 Try.f6 rfl rfl rfl rfl rfl rfl rfl ⟨rfl, rfl, rfl, rfl, rfl⟩ rfl rfl rfl rfl rfl (by kernel_rfl) Try.func6 (by kernel_rfl)
    (of_decide_eq_true (by kernel_rfl)) (by unfold Func.isWrapper; first | (rw [if_pos (by decide +kernel)]; kernel_rfl) | (rw [if_neg (by decide +kernel)]; exact ⟨rfl, rfl⟩))
    (fun os started H enc _ => lifted os started H enc)

theorem proved : Rows.SynodEndsSaid := over
#print axioms proved
end Go.Proofs.Ytkpfgoalohbfeaa.synodEnds
