/-
  No cell of these rows narrows 'for every input' (looked for: loops, veiled, ifaces, maps, wideKeys, modest, calm, conditions, laid).
  DERIVED. THE GIVEN ROWS OF THIS SEAT. 7 by the template 'for every input the law returns true; each argument reads behind the call as it read before'; 0 by the template 'total and deterministic' (their statements: YtliljjlegofmkaaTotals.lean).
  GIVEN WITH THE SEED: the statements are not yours to turn. If you find one false, say at which input.
  Laid BY PROGRAM, IN A SANDBOX (cutbox-rows.mjs): the forced cells as the released guide's own fill.sh prints them over the translation cb4af67a72c5ad5b… (all of the seat's roots in one cut). By AI agents, Wed Nov 11 2026. No macro, syntax, notation, axiom, sorry.
-/
import Derived.Test.YtliljjlegofmkaaChecked
import GoSem.Claim
import GoSem.ClaimJoined
import GoSem.ClaimMapViews
import Derived.JoinedTies
import Derived.KernelRfl
namespace Go.Proofs.Ytliljjlegofmkaa
/- THE CELL 'sum', in the pinned program and in every row, IS THE sha256 OF THE DUMP (.gsa) THAT YtliljjlegofmkaaProg.lean LOADS. Nothing in Lean hashes anything: it is a label: what it is worth is what the hold of that sum in a sandbox is worth. -/
noncomputable def Try.pinned : Pinned := { name := "ytliljjlegofmkaa", sum := "cb4af67a72c5ad5be03d0d723200573d8372b1b40f30289e6627985591263027", checked := Try.checked }
namespace Rows
def none {H : Type} : Left H := { results := [], args := [] }

/-- 'seawalllaw10.ProposeSafe': WHATEVER THE INPUT: true; the input reads as it did. -/
def proposeSafeSpec : ChangeSpec := { name := "proposeSafe", fn := fun _ => fun
  | [d1, d2, d3] => { results := [.lit (.bool true)], args := [d1, d2, d3] }
  | _ => none }
def proposeSafeRow : OpenClaim := { program := "ytliljjlegofmkaa", sum := "cb4af67a72c5ad5be03d0d723200573d8372b1b40f30289e6627985591263027", func := "seawall/seawalllaw10.ProposeSafe", spec := "proposeSafe", unfollowed := true, recurses := true, apart := false }
def ProposeSafeSaid : Prop := proposeSafeRow.holds Try.pinned (OpenSpec.ofChange proposeSafeSpec)

/-- ITS FALSE NEIGHBOUR: 'it returns false'. Refute it at one input. -/
def proposeSafeWrong : ChangeSpec := { name := "proposeSafe", fn := fun _ => fun
  | [d1, d2, d3] => { results := [.lit (.bool false)], args := [d1, d2, d3] }
  | _ => none }
def ProposeSafeWrongFalsely : Prop := proposeSafeRow.holds Try.pinned (OpenSpec.ofChange proposeSafeWrong)

/-- 'seawalllaw10.ProposeSame': WHATEVER THE INPUT: true; the input reads as it did. -/
def proposeSameSpec : ChangeSpec := { name := "proposeSame", fn := fun _ => fun
  | [d1, d2, d3, d4] => { results := [.lit (.bool true)], args := [d1, d2, d3, d4] }
  | _ => none }
def proposeSameRow : OpenClaim := { program := "ytliljjlegofmkaa", sum := "cb4af67a72c5ad5be03d0d723200573d8372b1b40f30289e6627985591263027", func := "seawall/seawalllaw10.ProposeSame", spec := "proposeSame", unfollowed := true, recurses := true, apart := false }
def ProposeSameSaid : Prop := proposeSameRow.holds Try.pinned (OpenSpec.ofChange proposeSameSpec)

/-- ITS FALSE NEIGHBOUR: 'it returns false'. Refute it at one input. -/
def proposeSameWrong : ChangeSpec := { name := "proposeSame", fn := fun _ => fun
  | [d1, d2, d3, d4] => { results := [.lit (.bool false)], args := [d1, d2, d3, d4] }
  | _ => none }
def ProposeSameWrongFalsely : Prop := proposeSameRow.holds Try.pinned (OpenSpec.ofChange proposeSameWrong)

/-- 'seawalllaw10.ProposeNeeds': WHATEVER THE INPUT: true; the input reads as it did. -/
def proposeNeedsSpec : ChangeSpec := { name := "proposeNeeds", fn := fun _ => fun
  | [d1, d2, d3] => { results := [.lit (.bool true)], args := [d1, d2, d3] }
  | _ => none }
def proposeNeedsRow : OpenClaim := { program := "ytliljjlegofmkaa", sum := "cb4af67a72c5ad5be03d0d723200573d8372b1b40f30289e6627985591263027", func := "seawall/seawalllaw10.ProposeNeeds", spec := "proposeNeeds", unfollowed := true, recurses := true, apart := false }
def ProposeNeedsSaid : Prop := proposeNeedsRow.holds Try.pinned (OpenSpec.ofChange proposeNeedsSpec)

/-- ITS FALSE NEIGHBOUR: 'it returns false'. Refute it at one input. -/
def proposeNeedsWrong : ChangeSpec := { name := "proposeNeeds", fn := fun _ => fun
  | [d1, d2, d3] => { results := [.lit (.bool false)], args := [d1, d2, d3] }
  | _ => none }
def ProposeNeedsWrongFalsely : Prop := proposeNeedsRow.holds Try.pinned (OpenSpec.ofChange proposeNeedsWrong)

/-- 'seawalllaw10.ProposePrefix': WHATEVER THE INPUT: true; the input reads as it did. -/
def proposePrefixSpec : ChangeSpec := { name := "proposePrefix", fn := fun _ => fun
  | [d1, d2] => { results := [.lit (.bool true)], args := [d1, d2] }
  | _ => none }
def proposePrefixRow : OpenClaim := { program := "ytliljjlegofmkaa", sum := "cb4af67a72c5ad5be03d0d723200573d8372b1b40f30289e6627985591263027", func := "seawall/seawalllaw10.ProposePrefix", spec := "proposePrefix", unfollowed := true, recurses := true, apart := false }
def ProposePrefixSaid : Prop := proposePrefixRow.holds Try.pinned (OpenSpec.ofChange proposePrefixSpec)

/-- ITS FALSE NEIGHBOUR: 'it returns false'. Refute it at one input. -/
def proposePrefixWrong : ChangeSpec := { name := "proposePrefix", fn := fun _ => fun
  | [d1, d2] => { results := [.lit (.bool false)], args := [d1, d2] }
  | _ => none }
def ProposePrefixWrongFalsely : Prop := proposePrefixRow.holds Try.pinned (OpenSpec.ofChange proposePrefixWrong)

/-- 'seawalllaw10.ProposePlays': WHATEVER THE INPUT: true; the input reads as it did. -/
def proposePlaysSpec : ChangeSpec := { name := "proposePlays", fn := fun _ => fun
  | [d1, d2, d3, d4] => { results := [.lit (.bool true)], args := [d1, d2, d3, d4] }
  | _ => none }
def proposePlaysRow : OpenClaim := { program := "ytliljjlegofmkaa", sum := "cb4af67a72c5ad5be03d0d723200573d8372b1b40f30289e6627985591263027", func := "seawall/seawalllaw10.ProposePlays", spec := "proposePlays", unfollowed := true, recurses := true, apart := false }
def ProposePlaysSaid : Prop := proposePlaysRow.holds Try.pinned (OpenSpec.ofChange proposePlaysSpec)

/-- ITS FALSE NEIGHBOUR: 'it returns false'. Refute it at one input. -/
def proposePlaysWrong : ChangeSpec := { name := "proposePlays", fn := fun _ => fun
  | [d1, d2, d3, d4] => { results := [.lit (.bool false)], args := [d1, d2, d3, d4] }
  | _ => none }
def ProposePlaysWrongFalsely : Prop := proposePlaysRow.holds Try.pinned (OpenSpec.ofChange proposePlaysWrong)

/-- 'seawalllaw10.ProposeMust': WHATEVER THE INPUT: true; the input reads as it did. -/
def proposeMustSpec : ChangeSpec := { name := "proposeMust", fn := fun _ => fun
  | [d1, d2, d3] => { results := [.lit (.bool true)], args := [d1, d2, d3] }
  | _ => none }
def proposeMustRow : OpenClaim := { program := "ytliljjlegofmkaa", sum := "cb4af67a72c5ad5be03d0d723200573d8372b1b40f30289e6627985591263027", func := "seawall/seawalllaw10.ProposeMust", spec := "proposeMust", unfollowed := true, recurses := true, apart := false }
def ProposeMustSaid : Prop := proposeMustRow.holds Try.pinned (OpenSpec.ofChange proposeMustSpec)

/-- ITS FALSE NEIGHBOUR: 'it returns false'. Refute it at one input. -/
def proposeMustWrong : ChangeSpec := { name := "proposeMust", fn := fun _ => fun
  | [d1, d2, d3] => { results := [.lit (.bool false)], args := [d1, d2, d3] }
  | _ => none }
def ProposeMustWrongFalsely : Prop := proposeMustRow.holds Try.pinned (OpenSpec.ofChange proposeMustWrong)

/-- 'seawalllaw10.ProposeNil': WHATEVER THE INPUT: true; the input reads as it did. -/
def proposeNilSpec : ChangeSpec := { name := "proposeNil", fn := fun _ => fun
  | [d] => { results := [.lit (.bool true)], args := [d] }
  | _ => none }
def proposeNilRow : OpenClaim := { program := "ytliljjlegofmkaa", sum := "cb4af67a72c5ad5be03d0d723200573d8372b1b40f30289e6627985591263027", func := "seawall/seawalllaw10.ProposeNil", spec := "proposeNil", unfollowed := true, recurses := true, apart := false }
def ProposeNilSaid : Prop := proposeNilRow.holds Try.pinned (OpenSpec.ofChange proposeNilSpec)

/-- ITS FALSE NEIGHBOUR: 'it returns false'. Refute it at one input. -/
def proposeNilWrong : ChangeSpec := { name := "proposeNil", fn := fun _ => fun
  | [d] => { results := [.lit (.bool false)], args := [d] }
  | _ => none }
def ProposeNilWrongFalsely : Prop := proposeNilRow.holds Try.pinned (OpenSpec.ofChange proposeNilWrong)

/- THE SECOND FORM. 'bulk': how many values and letters a reading holds, each counted each time it is reached (what is shared counts as often as it is met; a slice's spare places count too). A statement '..UptoSaid' is the law's where the arguments, and the package variables that the reading takes, are together of bulk at most 1048576: NARROWER than '..Said'. Prove '..Said' where nothing that the law and all that it calls make is longer than what came in: it says more and counts as full. Else prove '..UptoSaid'. A law counts once. -/
mutual
def uptoBulk {H : Type} : DataW H → Nat
  | .lit (.string bytes) => bytes.length + 1
  | .lit _ => 1
  | .nil => 1
  | .ptr d => uptoBulk d + 1
  | .slice elems spare => uptoBulkAll elems + uptoBulkAll spare + 1
  | .agg parts => uptoBulkAll parts + 1
  | .iface _ d => uptoBulk d + 1
  | .map entries => uptoBulkEntries entries + 1
  | .held _ => 1
def uptoBulkAll {H : Type} : List (DataW H) → Nat
  | [] => 0
  | d :: r => uptoBulk d + uptoBulkAll r
def uptoBulkEntries {H : Type} : List (Lit × DataW H) → Nat
  | [] => 0
  | x :: r => uptoBulkEntry x + uptoBulkEntries r
def uptoBulkEntry {H : Type} : Lit × DataW H → Nat
  | (.string bytes, d) => bytes.length + uptoBulk d + 1
  | (_, d) => uptoBulk d + 1
 end
def uptoSmall : (H : Type) → List (DataW H) → Bool := fun _ ds => decide (uptoBulkAll ds ≤ 1048576)
def OpenSpec.upto (s : _root_.Go.ChangeSpec) : _root_.Go.OpenSpec := { _root_.Go.OpenSpec.ofChange s with cond := some uptoSmall }

/-- 'seawalllaw10.ProposeSafe', WHERE WHAT IT READS IS OF BULK AT MOST 1048576: true; the input reads as it did. -/
def proposeSafeUptoRow : OpenClaim := { program := "ytliljjlegofmkaa", sum := "cb4af67a72c5ad5be03d0d723200573d8372b1b40f30289e6627985591263027", func := "seawall/seawalllaw10.ProposeSafe", spec := "proposeSafe", unfollowed := true, recurses := true, apart := false, narrowed := true }
def ProposeSafeUptoSaid : Prop := proposeSafeUptoRow.holds Try.pinned (OpenSpec.upto proposeSafeSpec)

/-- 'seawalllaw10.ProposeSame', WHERE WHAT IT READS IS OF BULK AT MOST 1048576: true; the input reads as it did. -/
def proposeSameUptoRow : OpenClaim := { program := "ytliljjlegofmkaa", sum := "cb4af67a72c5ad5be03d0d723200573d8372b1b40f30289e6627985591263027", func := "seawall/seawalllaw10.ProposeSame", spec := "proposeSame", unfollowed := true, recurses := true, apart := false, narrowed := true }
def ProposeSameUptoSaid : Prop := proposeSameUptoRow.holds Try.pinned (OpenSpec.upto proposeSameSpec)

/-- 'seawalllaw10.ProposeNeeds', WHERE WHAT IT READS IS OF BULK AT MOST 1048576: true; the input reads as it did. -/
def proposeNeedsUptoRow : OpenClaim := { program := "ytliljjlegofmkaa", sum := "cb4af67a72c5ad5be03d0d723200573d8372b1b40f30289e6627985591263027", func := "seawall/seawalllaw10.ProposeNeeds", spec := "proposeNeeds", unfollowed := true, recurses := true, apart := false, narrowed := true }
def ProposeNeedsUptoSaid : Prop := proposeNeedsUptoRow.holds Try.pinned (OpenSpec.upto proposeNeedsSpec)

/-- 'seawalllaw10.ProposePrefix', WHERE WHAT IT READS IS OF BULK AT MOST 1048576: true; the input reads as it did. -/
def proposePrefixUptoRow : OpenClaim := { program := "ytliljjlegofmkaa", sum := "cb4af67a72c5ad5be03d0d723200573d8372b1b40f30289e6627985591263027", func := "seawall/seawalllaw10.ProposePrefix", spec := "proposePrefix", unfollowed := true, recurses := true, apart := false, narrowed := true }
def ProposePrefixUptoSaid : Prop := proposePrefixUptoRow.holds Try.pinned (OpenSpec.upto proposePrefixSpec)

/-- 'seawalllaw10.ProposePlays', WHERE WHAT IT READS IS OF BULK AT MOST 1048576: true; the input reads as it did. -/
def proposePlaysUptoRow : OpenClaim := { program := "ytliljjlegofmkaa", sum := "cb4af67a72c5ad5be03d0d723200573d8372b1b40f30289e6627985591263027", func := "seawall/seawalllaw10.ProposePlays", spec := "proposePlays", unfollowed := true, recurses := true, apart := false, narrowed := true }
def ProposePlaysUptoSaid : Prop := proposePlaysUptoRow.holds Try.pinned (OpenSpec.upto proposePlaysSpec)

/-- 'seawalllaw10.ProposeMust', WHERE WHAT IT READS IS OF BULK AT MOST 1048576: true; the input reads as it did. -/
def proposeMustUptoRow : OpenClaim := { program := "ytliljjlegofmkaa", sum := "cb4af67a72c5ad5be03d0d723200573d8372b1b40f30289e6627985591263027", func := "seawall/seawalllaw10.ProposeMust", spec := "proposeMust", unfollowed := true, recurses := true, apart := false, narrowed := true }
def ProposeMustUptoSaid : Prop := proposeMustUptoRow.holds Try.pinned (OpenSpec.upto proposeMustSpec)

/-- 'seawalllaw10.ProposeNil', WHERE WHAT IT READS IS OF BULK AT MOST 1048576: true; the input reads as it did. -/
def proposeNilUptoRow : OpenClaim := { program := "ytliljjlegofmkaa", sum := "cb4af67a72c5ad5be03d0d723200573d8372b1b40f30289e6627985591263027", func := "seawall/seawalllaw10.ProposeNil", spec := "proposeNil", unfollowed := true, recurses := true, apart := false, narrowed := true }
def ProposeNilUptoSaid : Prop := proposeNilUptoRow.holds Try.pinned (OpenSpec.upto proposeNilSpec)

end Rows
end Go.Proofs.Ytliljjlegofmkaa
