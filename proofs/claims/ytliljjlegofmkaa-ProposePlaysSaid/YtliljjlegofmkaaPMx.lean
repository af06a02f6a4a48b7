/- The document's Less and Right of ballots. -/
import Derived.Test.YtliljjlegofmkaaPB
namespace Go.Proofs.Ytliljjlegofmkaa
open Go.RowKit

set_option maxHeartbeats 1000000 in
theorem rless_any (a : Nat) (b : Int) (c : Nat) (d : Int) (w : World) :
    Calls Try.prog 17 #[.agg #[.int .u64 a, .int .i64 b], .agg #[.int .u64 c, .int .i64 d]] w fun e w' => e = .returned (.bool (lessB a b c d)) ∧ Fr (fun _ => False) w w' := by
  have hf := ((Fr.refl (fun _ => False) w).alloc (.cells #[.int .u64 a, .int .i64 b] 33)).alloc (.cells #[.int .u64 c, .int .i64 d] 33)
  have HF := Lib.hid hf
  clear hf
  by_cases h1 : a = c
  · have e1 : lessB a b c d = decide (b < d) := by simp [lessB, h1]
    rw [e1]; clear e1
    subst h1
    go_enter Try.func17, Try.ntmps17
    go_wp2
    go_ret
    exact ⟨rfl, HF.out⟩
  · have h2 : ((a : Int) == (c : Int)) = false := by simp; omega
    by_cases h0 : a < c
    · have e1 : lessB a b c d = true := by simp [lessB, h0]
      rw [e1]; clear e1
      have h0' : (a : Int) < (c : Int) := by omega
      clear h1
      go_enter Try.func17, Try.ntmps17
      go_wp2
      go_ret
      exact ⟨rfl, HF.out⟩
    · have e1 : lessB a b c d = false := by simp [lessB, h0, h1]
      rw [e1]; clear e1
      have h0' : ¬ (a : Int) < (c : Int) := by omega
      clear h1
      go_enter Try.func17, Try.ntmps17
      go_wp2
      go_ret
      exact ⟨rfl, HF.out⟩
set_option maxHeartbeats 1000000 in
theorem rright9_any (n : Nat) (d : Int) (w : World) :
    Calls Try.prog 42 #[.agg #[.int .u64 n, .int .i64 d]] w fun e w' => e = .returned (.bool (rightB n d)) ∧ Fr (fun _ => False) w w' := by
  have hf := (Fr.refl (fun _ => False) w).alloc (.cells #[.int .u64 n, .int .i64 d] 33)
  have HF := Lib.hid hf
  clear hf
  by_cases h0 : (1 : Int) ≤ (n : Int)
  · by_cases h1 : 0 ≤ d
    · have e1 : rightB n d = decide (d ≤ 11) := by
        unfold rightB; rw [decide_eq_decide]; omega
      rw [e1]; clear e1
      go_enter Try.func42, Try.ntmps42
      go_wp2
      go_ret
      exact ⟨rfl, HF.out⟩
    · have e1 : rightB n d = false := by simp [rightB, h1]
      rw [e1]; clear e1
      go_enter Try.func42, Try.ntmps42
      go_wp2
      go_ret
      exact ⟨rfl, HF.out⟩
  · have e1 : rightB n d = false := by unfold rightB; rw [decide_eq_false]; omega
    rw [e1]; clear e1
    go_enter Try.func42, Try.ntmps42
    go_wp2
    go_ret
    exact ⟨rfl, HF.out⟩
end Go.Proofs.Ytliljjlegofmkaa
