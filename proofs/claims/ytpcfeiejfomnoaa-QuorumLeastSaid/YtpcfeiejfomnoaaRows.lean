/-
  No cell of these rows narrows 'for every input' (looked for: loops, veiled, ifaces, maps, wideKeys, modest, calm, conditions, laid).
  DERIVED. THE GIVEN ROWS OF THIS SEAT. 6 by the template 'for every input the law returns true; each argument reads behind the call as it read before'; 0 by the template 'total and deterministic' (their statements: YtpcfeiejfomnoaaTotals.lean).
  GIVEN WITH THE SEED: the statements are not yours to turn. If you find one false, say at which input.
  Laid BY PROGRAM, IN A SANDBOX (cutbox-rows.mjs): the forced cells as the released guide's own fill.sh prints them over the translation ebf2541d9b3f9ded… (all of the seat's roots in one cut). By AI agents, Wed Nov 11 2026. No macro, syntax, notation, axiom, sorry.
-/
import Derived.Test.YtpcfeiejfomnoaaChecked
import GoSem.Claim
import GoSem.ClaimJoined
import GoSem.ClaimMapViews
import Derived.JoinedTies
import Derived.KernelRfl
namespace Go.Proofs.Ytpcfeiejfomnoaa
/- THE CELL 'sum', in the pinned program and in every row, IS THE sha256 OF THE DUMP (.gsa) THAT YtpcfeiejfomnoaaProg.lean LOADS. Nothing in Lean hashes anything: it is a label: what it is worth is what the hold of that sum in a sandbox is worth. -/
noncomputable def Try.pinned : Pinned := { name := "ytpcfeiejfomnoaa", sum := "ebf2541d9b3f9ded2fcba9bc927e4781b365764c5c03003fef37159560d1dcb7", checked := Try.checked }
namespace Rows
def none {H : Type} : Left H := { results := [], args := [] }

/-- 'seawalllaw08.QuorumLeast': WHATEVER THE INPUT: true; the input reads as it did. -/
def quorumLeastSpec : ChangeSpec := { name := "quorumLeast", fn := fun _ => fun
  | [d1, d2] => { results := [.lit (.bool true)], args := [d1, d2] }
  | _ => none }
def quorumLeastRow : OpenClaim := { program := "ytpcfeiejfomnoaa", sum := "ebf2541d9b3f9ded2fcba9bc927e4781b365764c5c03003fef37159560d1dcb7", func := "seawall/seawalllaw08.QuorumLeast", spec := "quorumLeast", unfollowed := true, recurses := true, apart := false }
def QuorumLeastSaid : Prop := quorumLeastRow.holds Try.pinned (OpenSpec.ofChange quorumLeastSpec)

/-- ITS FALSE NEIGHBOUR: 'it returns false'. Refute it at one input. -/
def quorumLeastWrong : ChangeSpec := { name := "quorumLeast", fn := fun _ => fun
  | [d1, d2] => { results := [.lit (.bool false)], args := [d1, d2] }
  | _ => none }
def QuorumLeastWrongFalsely : Prop := quorumLeastRow.holds Try.pinned (OpenSpec.ofChange quorumLeastWrong)

/-- 'seawalllaw08.QuorumReach': WHATEVER THE INPUT: true; the input reads as it did. -/
def quorumReachSpec : ChangeSpec := { name := "quorumReach", fn := fun _ => fun
  | [d1, d2] => { results := [.lit (.bool true)], args := [d1, d2] }
  | _ => none }
def quorumReachRow : OpenClaim := { program := "ytpcfeiejfomnoaa", sum := "ebf2541d9b3f9ded2fcba9bc927e4781b365764c5c03003fef37159560d1dcb7", func := "seawall/seawalllaw08.QuorumReach", spec := "quorumReach", unfollowed := true, recurses := true, apart := false }
def QuorumReachSaid : Prop := quorumReachRow.holds Try.pinned (OpenSpec.ofChange quorumReachSpec)

/-- ITS FALSE NEIGHBOUR: 'it returns false'. Refute it at one input. -/
def quorumReachWrong : ChangeSpec := { name := "quorumReach", fn := fun _ => fun
  | [d1, d2] => { results := [.lit (.bool false)], args := [d1, d2] }
  | _ => none }
def QuorumReachWrongFalsely : Prop := quorumReachRow.holds Try.pinned (OpenSpec.ofChange quorumReachWrong)

/-- 'seawalllaw08.QuorumMeets': WHATEVER THE INPUT: true; the input reads as it did. -/
def quorumMeetsSpec : ChangeSpec := { name := "quorumMeets", fn := fun _ => fun
  | [d1, d2, d3] => { results := [.lit (.bool true)], args := [d1, d2, d3] }
  | _ => none }
def quorumMeetsRow : OpenClaim := { program := "ytpcfeiejfomnoaa", sum := "ebf2541d9b3f9ded2fcba9bc927e4781b365764c5c03003fef37159560d1dcb7", func := "seawall/seawalllaw08.QuorumMeets", spec := "quorumMeets", unfollowed := true, recurses := true, apart := false }
def QuorumMeetsSaid : Prop := quorumMeetsRow.holds Try.pinned (OpenSpec.ofChange quorumMeetsSpec)

/-- ITS FALSE NEIGHBOUR: 'it returns false'. Refute it at one input. -/
def quorumMeetsWrong : ChangeSpec := { name := "quorumMeets", fn := fun _ => fun
  | [d1, d2, d3] => { results := [.lit (.bool false)], args := [d1, d2, d3] }
  | _ => none }
def QuorumMeetsWrongFalsely : Prop := quorumMeetsRow.holds Try.pinned (OpenSpec.ofChange quorumMeetsWrong)

/-- 'seawalllaw08.QuorumGrows': WHATEVER THE INPUT: true; the input reads as it did. -/
def quorumGrowsSpec : ChangeSpec := { name := "quorumGrows", fn := fun _ => fun
  | [d1, d2, d3] => { results := [.lit (.bool true)], args := [d1, d2, d3] }
  | _ => none }
def quorumGrowsRow : OpenClaim := { program := "ytpcfeiejfomnoaa", sum := "ebf2541d9b3f9ded2fcba9bc927e4781b365764c5c03003fef37159560d1dcb7", func := "seawall/seawalllaw08.QuorumGrows", spec := "quorumGrows", unfollowed := true, recurses := true, apart := false }
def QuorumGrowsSaid : Prop := quorumGrowsRow.holds Try.pinned (OpenSpec.ofChange quorumGrowsSpec)

/-- ITS FALSE NEIGHBOUR: 'it returns false'. Refute it at one input. -/
def quorumGrowsWrong : ChangeSpec := { name := "quorumGrows", fn := fun _ => fun
  | [d1, d2, d3] => { results := [.lit (.bool false)], args := [d1, d2, d3] }
  | _ => none }
def QuorumGrowsWrongFalsely : Prop := quorumGrowsRow.holds Try.pinned (OpenSpec.ofChange quorumGrowsWrong)

/-- 'seawalllaw08.QuorumServes': WHATEVER THE INPUT: true; the input reads as it did. -/
def quorumServesSpec : ChangeSpec := { name := "quorumServes", fn := fun _ => fun
  | [d1, d2, d3] => { results := [.lit (.bool true)], args := [d1, d2, d3] }
  | _ => none }
def quorumServesRow : OpenClaim := { program := "ytpcfeiejfomnoaa", sum := "ebf2541d9b3f9ded2fcba9bc927e4781b365764c5c03003fef37159560d1dcb7", func := "seawall/seawalllaw08.QuorumServes", spec := "quorumServes", unfollowed := true, recurses := true, apart := false }
def QuorumServesSaid : Prop := quorumServesRow.holds Try.pinned (OpenSpec.ofChange quorumServesSpec)

/-- ITS FALSE NEIGHBOUR: 'it returns false'. Refute it at one input. -/
def quorumServesWrong : ChangeSpec := { name := "quorumServes", fn := fun _ => fun
  | [d1, d2, d3] => { results := [.lit (.bool false)], args := [d1, d2, d3] }
  | _ => none }
def QuorumServesWrongFalsely : Prop := quorumServesRow.holds Try.pinned (OpenSpec.ofChange quorumServesWrong)

/-- 'seawalllaw08.QuorumGone': WHATEVER THE INPUT: true; the input reads as it did. -/
def quorumGoneSpec : ChangeSpec := { name := "quorumGone", fn := fun _ => fun
  | [d1, d2, d3] => { results := [.lit (.bool true)], args := [d1, d2, d3] }
  | _ => none }
def quorumGoneRow : OpenClaim := { program := "ytpcfeiejfomnoaa", sum := "ebf2541d9b3f9ded2fcba9bc927e4781b365764c5c03003fef37159560d1dcb7", func := "seawall/seawalllaw08.QuorumGone", spec := "quorumGone", unfollowed := true, recurses := true, apart := false }
def QuorumGoneSaid : Prop := quorumGoneRow.holds Try.pinned (OpenSpec.ofChange quorumGoneSpec)

/-- ITS FALSE NEIGHBOUR: 'it returns false'. Refute it at one input. -/
def quorumGoneWrong : ChangeSpec := { name := "quorumGone", fn := fun _ => fun
  | [d1, d2, d3] => { results := [.lit (.bool false)], args := [d1, d2, d3] }
  | _ => none }
def QuorumGoneWrongFalsely : Prop := quorumGoneRow.holds Try.pinned (OpenSpec.ofChange quorumGoneWrong)

/- THE SECOND FORM. 'bulk': how many values and letters a reading holds, each counted each time it is reached (what is shared counts as often as it is met; a slice's spare places count too). A statement '..UptoSaid' is the law's where the arguments, and the package variables that the reading takes, are together of bulk at most 1048576: NARROWER than '..Said'. Prove '..Said' where nothing that the law and all that it calls make is longer than what came in: it says more and counts as full. Else prove '..UptoSaid'. A law counts once. -/
mutual
def uptoBulk {H : Type} : DataW H → Nat
  | .lit (.string bytes) => bytes.length + 1
  | .lit _ => 1
  | .nil => 1
  | .ptr d => uptoBulk d + 1
  | .slice elems spare => uptoBulkAll elems + uptoBulkAll spare + 1
  | .agg parts => uptoBulkAll parts + 1
  | .iface _ d => uptoBulk d + 1
  | .map entries => uptoBulkEntries entries + 1
  | .held _ => 1
def uptoBulkAll {H : Type} : List (DataW H) → Nat
  | [] => 0
  | d :: r => uptoBulk d + uptoBulkAll r
def uptoBulkEntries {H : Type} : List (Lit × DataW H) → Nat
  | [] => 0
  | x :: r => uptoBulkEntry x + uptoBulkEntries r
def uptoBulkEntry {H : Type} : Lit × DataW H → Nat
  | (.string bytes, d) => bytes.length + uptoBulk d + 1
  | (_, d) => uptoBulk d + 1
 end
def uptoSmall : (H : Type) → List (DataW H) → Bool := fun _ ds => decide (uptoBulkAll ds ≤ 1048576)
def OpenSpec.upto (s : _root_.Go.ChangeSpec) : _root_.Go.OpenSpec := { _root_.Go.OpenSpec.ofChange s with cond := some uptoSmall }

/-- 'seawalllaw08.QuorumLeast', WHERE WHAT IT READS IS OF BULK AT MOST 1048576: true; the input reads as it did. -/
def quorumLeastUptoRow : OpenClaim := { program := "ytpcfeiejfomnoaa", sum := "ebf2541d9b3f9ded2fcba9bc927e4781b365764c5c03003fef37159560d1dcb7", func := "seawall/seawalllaw08.QuorumLeast", spec := "quorumLeast", unfollowed := true, recurses := true, apart := false, narrowed := true }
def QuorumLeastUptoSaid : Prop := quorumLeastUptoRow.holds Try.pinned (OpenSpec.upto quorumLeastSpec)

/-- 'seawalllaw08.QuorumReach', WHERE WHAT IT READS IS OF BULK AT MOST 1048576: true; the input reads as it did. -/
def quorumReachUptoRow : OpenClaim := { program := "ytpcfeiejfomnoaa", sum := "ebf2541d9b3f9ded2fcba9bc927e4781b365764c5c03003fef37159560d1dcb7", func := "seawall/seawalllaw08.QuorumReach", spec := "quorumReach", unfollowed := true, recurses := true, apart := false, narrowed := true }
def QuorumReachUptoSaid : Prop := quorumReachUptoRow.holds Try.pinned (OpenSpec.upto quorumReachSpec)

/-- 'seawalllaw08.QuorumMeets', WHERE WHAT IT READS IS OF BULK AT MOST 1048576: true; the input reads as it did. -/
def quorumMeetsUptoRow : OpenClaim := { program := "ytpcfeiejfomnoaa", sum := "ebf2541d9b3f9ded2fcba9bc927e4781b365764c5c03003fef37159560d1dcb7", func := "seawall/seawalllaw08.QuorumMeets", spec := "quorumMeets", unfollowed := true, recurses := true, apart := false, narrowed := true }
def QuorumMeetsUptoSaid : Prop := quorumMeetsUptoRow.holds Try.pinned (OpenSpec.upto quorumMeetsSpec)

/-- 'seawalllaw08.QuorumGrows', WHERE WHAT IT READS IS OF BULK AT MOST 1048576: true; the input reads as it did. -/
def quorumGrowsUptoRow : OpenClaim := { program := "ytpcfeiejfomnoaa", sum := "ebf2541d9b3f9ded2fcba9bc927e4781b365764c5c03003fef37159560d1dcb7", func := "seawall/seawalllaw08.QuorumGrows", spec := "quorumGrows", unfollowed := true, recurses := true, apart := false, narrowed := true }
def QuorumGrowsUptoSaid : Prop := quorumGrowsUptoRow.holds Try.pinned (OpenSpec.upto quorumGrowsSpec)

/-- 'seawalllaw08.QuorumServes', WHERE WHAT IT READS IS OF BULK AT MOST 1048576: true; the input reads as it did. -/
def quorumServesUptoRow : OpenClaim := { program := "ytpcfeiejfomnoaa", sum := "ebf2541d9b3f9ded2fcba9bc927e4781b365764c5c03003fef37159560d1dcb7", func := "seawall/seawalllaw08.QuorumServes", spec := "quorumServes", unfollowed := true, recurses := true, apart := false, narrowed := true }
def QuorumServesUptoSaid : Prop := quorumServesUptoRow.holds Try.pinned (OpenSpec.upto quorumServesSpec)

/-- 'seawalllaw08.QuorumGone', WHERE WHAT IT READS IS OF BULK AT MOST 1048576: true; the input reads as it did. -/
def quorumGoneUptoRow : OpenClaim := { program := "ytpcfeiejfomnoaa", sum := "ebf2541d9b3f9ded2fcba9bc927e4781b365764c5c03003fef37159560d1dcb7", func := "seawall/seawalllaw08.QuorumGone", spec := "quorumGone", unfollowed := true, recurses := true, apart := false, narrowed := true }
def QuorumGoneUptoSaid : Prop := quorumGoneUptoRow.holds Try.pinned (OpenSpec.upto quorumGoneSpec)

end Rows
end Go.Proofs.Ytpcfeiejfomnoaa
