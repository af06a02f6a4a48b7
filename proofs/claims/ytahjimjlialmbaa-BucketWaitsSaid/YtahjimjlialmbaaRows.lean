/-
  No cell of these rows narrows 'for every input' (looked for: loops, veiled, ifaces, maps, wideKeys, modest, calm, conditions, laid).
  DERIVED. THE GIVEN ROWS OF THIS SEAT. 6 by the template 'for every input the law returns true; each argument reads behind the call as it read before'; 0 by the template 'total and deterministic' (their statements: YtahjimjlialmbaaTotals.lean).
  GIVEN WITH THE SEED: the statements are not yours to turn. If you find one false, say at which input.
  Laid BY PROGRAM, IN A SANDBOX (cutbox-rows.mjs): the forced cells as the released guide's own fill.sh prints them over the translation 16627bc4ae19714c… (all of the seat's roots in one cut). By AI agents, Wed Nov 11 2026. No macro, syntax, notation, axiom, sorry.
-/
import Derived.Test.YtahjimjlialmbaaChecked
import GoSem.Claim
import GoSem.ClaimJoined
import GoSem.ClaimMapViews
import Derived.JoinedTies
import Derived.KernelRfl
namespace Go.Proofs.Ytahjimjlialmbaa
/- THE CELL 'sum', in the pinned program and in every row, IS THE sha256 OF THE DUMP (.gsa) THAT YtahjimjlialmbaaProg.lean LOADS. Nothing in Lean hashes anything: it is a label: what it is worth is what the hold of that sum in a sandbox is worth. -/
noncomputable def Try.pinned : Pinned := { name := "ytahjimjlialmbaa", sum := "16627bc4ae19714c1da4a228bbc0e1152f9097a7af2f596c7b7b30168629d6cc", checked := Try.checked }
namespace Rows
def none {H : Type} : Left H := { results := [], args := [] }

/-- 'seawalllaw15.BucketDoes': WHATEVER THE INPUT: true; the input reads as it did. -/
def bucketDoesSpec : ChangeSpec := { name := "bucketDoes", fn := fun _ => fun
  | [d1, d2, d3, d4] => { results := [.lit (.bool true)], args := [d1, d2, d3, d4] }
  | _ => none }
def bucketDoesRow : OpenClaim := { program := "ytahjimjlialmbaa", sum := "16627bc4ae19714c1da4a228bbc0e1152f9097a7af2f596c7b7b30168629d6cc", func := "seawall/seawalllaw15.BucketDoes", spec := "bucketDoes", inPlace := ["math/bits.Add64"], apart := false }
def BucketDoesSaid : Prop := bucketDoesRow.holds Try.pinned (OpenSpec.ofChange bucketDoesSpec)

/-- ITS FALSE NEIGHBOUR: 'it returns false'. Refute it at one input. -/
def bucketDoesWrong : ChangeSpec := { name := "bucketDoes", fn := fun _ => fun
  | [d1, d2, d3, d4] => { results := [.lit (.bool false)], args := [d1, d2, d3, d4] }
  | _ => none }
def BucketDoesWrongFalsely : Prop := bucketDoesRow.holds Try.pinned (OpenSpec.ofChange bucketDoesWrong)

/-- 'seawalllaw15.BucketBacks': WHATEVER THE INPUT: true; the input reads as it did. -/
def bucketBacksSpec : ChangeSpec := { name := "bucketBacks", fn := fun _ => fun
  | [d1, d2, d3, d4] => { results := [.lit (.bool true)], args := [d1, d2, d3, d4] }
  | _ => none }
def bucketBacksRow : OpenClaim := { program := "ytahjimjlialmbaa", sum := "16627bc4ae19714c1da4a228bbc0e1152f9097a7af2f596c7b7b30168629d6cc", func := "seawall/seawalllaw15.BucketBacks", spec := "bucketBacks", inPlace := ["math/bits.Add64"], apart := false }
def BucketBacksSaid : Prop := bucketBacksRow.holds Try.pinned (OpenSpec.ofChange bucketBacksSpec)

/-- ITS FALSE NEIGHBOUR: 'it returns false'. Refute it at one input. -/
def bucketBacksWrong : ChangeSpec := { name := "bucketBacks", fn := fun _ => fun
  | [d1, d2, d3, d4] => { results := [.lit (.bool false)], args := [d1, d2, d3, d4] }
  | _ => none }
def BucketBacksWrongFalsely : Prop := bucketBacksRow.holds Try.pinned (OpenSpec.ofChange bucketBacksWrong)

/-- 'seawalllaw15.BucketBound': WHATEVER THE INPUT: true; the input reads as it did. -/
def bucketBoundSpec : ChangeSpec := { name := "bucketBound", fn := fun _ => fun
  | [d1, d2, d3] => { results := [.lit (.bool true)], args := [d1, d2, d3] }
  | _ => none }
def bucketBoundRow : OpenClaim := { program := "ytahjimjlialmbaa", sum := "16627bc4ae19714c1da4a228bbc0e1152f9097a7af2f596c7b7b30168629d6cc", func := "seawall/seawalllaw15.BucketBound", spec := "bucketBound", inPlace := ["math/bits.Add64"], apart := false }
def BucketBoundSaid : Prop := bucketBoundRow.holds Try.pinned (OpenSpec.ofChange bucketBoundSpec)

/-- ITS FALSE NEIGHBOUR: 'it returns false'. Refute it at one input. -/
def bucketBoundWrong : ChangeSpec := { name := "bucketBound", fn := fun _ => fun
  | [d1, d2, d3] => { results := [.lit (.bool false)], args := [d1, d2, d3] }
  | _ => none }
def BucketBoundWrongFalsely : Prop := bucketBoundRow.holds Try.pinned (OpenSpec.ofChange bucketBoundWrong)

/-- 'seawalllaw15.BucketWaits': WHATEVER THE INPUT: true; the input reads as it did. -/
def bucketWaitsSpec : ChangeSpec := { name := "bucketWaits", fn := fun _ => fun
  | [d1, d2, d3, d4] => { results := [.lit (.bool true)], args := [d1, d2, d3, d4] }
  | _ => none }
def bucketWaitsRow : OpenClaim := { program := "ytahjimjlialmbaa", sum := "16627bc4ae19714c1da4a228bbc0e1152f9097a7af2f596c7b7b30168629d6cc", func := "seawall/seawalllaw15.BucketWaits", spec := "bucketWaits", inPlace := ["math/bits.Add64"], apart := false }
def BucketWaitsSaid : Prop := bucketWaitsRow.holds Try.pinned (OpenSpec.ofChange bucketWaitsSpec)

/-- ITS FALSE NEIGHBOUR: 'it returns false'. Refute it at one input. -/
def bucketWaitsWrong : ChangeSpec := { name := "bucketWaits", fn := fun _ => fun
  | [d1, d2, d3, d4] => { results := [.lit (.bool false)], args := [d1, d2, d3, d4] }
  | _ => none }
def BucketWaitsWrongFalsely : Prop := bucketWaitsRow.holds Try.pinned (OpenSpec.ofChange bucketWaitsWrong)

/-- 'seawalllaw15.BucketSplit': WHATEVER THE INPUT: true; the input reads as it did. -/
def bucketSplitSpec : ChangeSpec := { name := "bucketSplit", fn := fun _ => fun
  | [d1, d2, d3, d4, d5] => { results := [.lit (.bool true)], args := [d1, d2, d3, d4, d5] }
  | _ => none }
def bucketSplitRow : OpenClaim := { program := "ytahjimjlialmbaa", sum := "16627bc4ae19714c1da4a228bbc0e1152f9097a7af2f596c7b7b30168629d6cc", func := "seawall/seawalllaw15.BucketSplit", spec := "bucketSplit", inPlace := ["math/bits.Add64"], apart := false }
def BucketSplitSaid : Prop := bucketSplitRow.holds Try.pinned (OpenSpec.ofChange bucketSplitSpec)

/-- ITS FALSE NEIGHBOUR: 'it returns false'. Refute it at one input. -/
def bucketSplitWrong : ChangeSpec := { name := "bucketSplit", fn := fun _ => fun
  | [d1, d2, d3, d4, d5] => { results := [.lit (.bool false)], args := [d1, d2, d3, d4, d5] }
  | _ => none }
def BucketSplitWrongFalsely : Prop := bucketSplitRow.holds Try.pinned (OpenSpec.ofChange bucketSplitWrong)

/-- 'seawalllaw15.BucketGrows': WHATEVER THE INPUT: true; the input reads as it did. -/
def bucketGrowsSpec : ChangeSpec := { name := "bucketGrows", fn := fun _ => fun
  | [d1, d2, d3, d4] => { results := [.lit (.bool true)], args := [d1, d2, d3, d4] }
  | _ => none }
def bucketGrowsRow : OpenClaim := { program := "ytahjimjlialmbaa", sum := "16627bc4ae19714c1da4a228bbc0e1152f9097a7af2f596c7b7b30168629d6cc", func := "seawall/seawalllaw15.BucketGrows", spec := "bucketGrows", inPlace := ["math/bits.Add64"], apart := false }
def BucketGrowsSaid : Prop := bucketGrowsRow.holds Try.pinned (OpenSpec.ofChange bucketGrowsSpec)

/-- ITS FALSE NEIGHBOUR: 'it returns false'. Refute it at one input. -/
def bucketGrowsWrong : ChangeSpec := { name := "bucketGrows", fn := fun _ => fun
  | [d1, d2, d3, d4] => { results := [.lit (.bool false)], args := [d1, d2, d3, d4] }
  | _ => none }
def BucketGrowsWrongFalsely : Prop := bucketGrowsRow.holds Try.pinned (OpenSpec.ofChange bucketGrowsWrong)

/- THE SECOND FORM. 'bulk': how many values and letters a reading holds, each counted each time it is reached (what is shared counts as often as it is met; a slice's spare places count too). A statement '..UptoSaid' is the law's where the arguments, and the package variables that the reading takes, are together of bulk at most 1048576: NARROWER than '..Said'. Prove '..Said' where nothing that the law and all that it calls make is longer than what came in: it says more and counts as full. Else prove '..UptoSaid'. A law counts once. -/
mutual
def uptoBulk {H : Type} : DataW H → Nat
  | .lit (.string bytes) => bytes.length + 1
  | .lit _ => 1
  | .nil => 1
  | .ptr d => uptoBulk d + 1
  | .slice elems spare => uptoBulkAll elems + uptoBulkAll spare + 1
  | .agg parts => uptoBulkAll parts + 1
  | .iface _ d => uptoBulk d + 1
  | .map entries => uptoBulkEntries entries + 1
  | .held _ => 1
def uptoBulkAll {H : Type} : List (DataW H) → Nat
  | [] => 0
  | d :: r => uptoBulk d + uptoBulkAll r
def uptoBulkEntries {H : Type} : List (Lit × DataW H) → Nat
  | [] => 0
  | x :: r => uptoBulkEntry x + uptoBulkEntries r
def uptoBulkEntry {H : Type} : Lit × DataW H → Nat
  | (.string bytes, d) => bytes.length + uptoBulk d + 1
  | (_, d) => uptoBulk d + 1
 end
def uptoSmall : (H : Type) → List (DataW H) → Bool := fun _ ds => decide (uptoBulkAll ds ≤ 1048576)
def OpenSpec.upto (s : _root_.Go.ChangeSpec) : _root_.Go.OpenSpec := { _root_.Go.OpenSpec.ofChange s with cond := some uptoSmall }

/-- 'seawalllaw15.BucketDoes', WHERE WHAT IT READS IS OF BULK AT MOST 1048576: true; the input reads as it did. -/
def bucketDoesUptoRow : OpenClaim := { program := "ytahjimjlialmbaa", sum := "16627bc4ae19714c1da4a228bbc0e1152f9097a7af2f596c7b7b30168629d6cc", func := "seawall/seawalllaw15.BucketDoes", spec := "bucketDoes", inPlace := ["math/bits.Add64"], apart := false, narrowed := true }
def BucketDoesUptoSaid : Prop := bucketDoesUptoRow.holds Try.pinned (OpenSpec.upto bucketDoesSpec)

/-- 'seawalllaw15.BucketBacks', WHERE WHAT IT READS IS OF BULK AT MOST 1048576: true; the input reads as it did. -/
def bucketBacksUptoRow : OpenClaim := { program := "ytahjimjlialmbaa", sum := "16627bc4ae19714c1da4a228bbc0e1152f9097a7af2f596c7b7b30168629d6cc", func := "seawall/seawalllaw15.BucketBacks", spec := "bucketBacks", inPlace := ["math/bits.Add64"], apart := false, narrowed := true }
def BucketBacksUptoSaid : Prop := bucketBacksUptoRow.holds Try.pinned (OpenSpec.upto bucketBacksSpec)

/-- 'seawalllaw15.BucketBound', WHERE WHAT IT READS IS OF BULK AT MOST 1048576: true; the input reads as it did. -/
def bucketBoundUptoRow : OpenClaim := { program := "ytahjimjlialmbaa", sum := "16627bc4ae19714c1da4a228bbc0e1152f9097a7af2f596c7b7b30168629d6cc", func := "seawall/seawalllaw15.BucketBound", spec := "bucketBound", inPlace := ["math/bits.Add64"], apart := false, narrowed := true }
def BucketBoundUptoSaid : Prop := bucketBoundUptoRow.holds Try.pinned (OpenSpec.upto bucketBoundSpec)

/-- 'seawalllaw15.BucketWaits', WHERE WHAT IT READS IS OF BULK AT MOST 1048576: true; the input reads as it did. -/
def bucketWaitsUptoRow : OpenClaim := { program := "ytahjimjlialmbaa", sum := "16627bc4ae19714c1da4a228bbc0e1152f9097a7af2f596c7b7b30168629d6cc", func := "seawall/seawalllaw15.BucketWaits", spec := "bucketWaits", inPlace := ["math/bits.Add64"], apart := false, narrowed := true }
def BucketWaitsUptoSaid : Prop := bucketWaitsUptoRow.holds Try.pinned (OpenSpec.upto bucketWaitsSpec)

/-- 'seawalllaw15.BucketSplit', WHERE WHAT IT READS IS OF BULK AT MOST 1048576: true; the input reads as it did. -/
def bucketSplitUptoRow : OpenClaim := { program := "ytahjimjlialmbaa", sum := "16627bc4ae19714c1da4a228bbc0e1152f9097a7af2f596c7b7b30168629d6cc", func := "seawall/seawalllaw15.BucketSplit", spec := "bucketSplit", inPlace := ["math/bits.Add64"], apart := false, narrowed := true }
def BucketSplitUptoSaid : Prop := bucketSplitUptoRow.holds Try.pinned (OpenSpec.upto bucketSplitSpec)

/-- 'seawalllaw15.BucketGrows', WHERE WHAT IT READS IS OF BULK AT MOST 1048576: true; the input reads as it did. -/
def bucketGrowsUptoRow : OpenClaim := { program := "ytahjimjlialmbaa", sum := "16627bc4ae19714c1da4a228bbc0e1152f9097a7af2f596c7b7b30168629d6cc", func := "seawall/seawalllaw15.BucketGrows", spec := "bucketGrows", inPlace := ["math/bits.Add64"], apart := false, narrowed := true }
def BucketGrowsUptoSaid : Prop := bucketGrowsUptoRow.holds Try.pinned (OpenSpec.upto bucketGrowsSpec)

end Rows
end Go.Proofs.Ytahjimjlialmbaa
