/-
  No cell of these rows narrows 'for every input' (looked for: loops, veiled, ifaces, maps, wideKeys, modest, calm, conditions, laid).
  DERIVED. THE GIVEN ROWS OF THIS SEAT. 7 by the template 'for every input the law returns true; each argument reads behind the call as it read before'; 0 by the template 'total and deterministic' (their statements: YtkpfgoalohbfeaaTotals.lean).
  GIVEN WITH THE SEED: the statements are not yours to turn. If you find one false, say at which input.
  Laid BY PROGRAM, IN A SANDBOX (cutbox-rows.mjs): the forced cells as the released guide's own fill.sh prints them over the translation 45f063c47315c59b… (all of the seat's roots in one cut). By AI agents, Wed Nov 11 2026. No macro, syntax, notation, axiom, sorry.
-/
import Derived.Test.YtkpfgoalohbfeaaChecked
import GoSem.Claim
import GoSem.ClaimJoined
import GoSem.ClaimMapViews
import Derived.JoinedTies
import Derived.KernelRfl
namespace Go.Proofs.Ytkpfgoalohbfeaa
/- THE CELL 'sum', in the pinned program and in every row, IS THE sha256 OF THE DUMP (.gsa) THAT YtkpfgoalohbfeaaProg.lean LOADS. Nothing in Lean hashes anything: it is a label: what it is worth is what the hold of that sum in a sandbox is worth. -/
noncomputable def Try.pinned : Pinned := { name := "ytkpfgoalohbfeaa", sum := "45f063c47315c59ba1f4e1e6cfdaf4120f66fae59d15f2b7487d8702d5d81764", checked := Try.checked }
namespace Rows
def none {H : Type} : Left H := { results := [], args := [] }

/-- 'seawalllaw11.SynodOne': WHATEVER THE INPUT: true; the input reads as it did. -/
def synodOneSpec : ChangeSpec := { name := "synodOne", fn := fun _ => fun
  | [d1, d2] => { results := [.lit (.bool true)], args := [d1, d2] }
  | _ => none }
def synodOneRow : OpenClaim := { program := "ytkpfgoalohbfeaa", sum := "45f063c47315c59ba1f4e1e6cfdaf4120f66fae59d15f2b7487d8702d5d81764", func := "seawall/seawalllaw11.SynodOne", spec := "synodOne", unfollowed := true, recurses := true, apart := false }
def SynodOneSaid : Prop := synodOneRow.holds Try.pinned (OpenSpec.ofChange synodOneSpec)

/-- ITS FALSE NEIGHBOUR: 'it returns false'. Refute it at one input. -/
def synodOneWrong : ChangeSpec := { name := "synodOne", fn := fun _ => fun
  | [d1, d2] => { results := [.lit (.bool false)], args := [d1, d2] }
  | _ => none }
def SynodOneWrongFalsely : Prop := synodOneRow.holds Try.pinned (OpenSpec.ofChange synodOneWrong)

/-- 'seawalllaw11.SynodTrue': WHATEVER THE INPUT: true; the input reads as it did. -/
def synodTrueSpec : ChangeSpec := { name := "synodTrue", fn := fun _ => fun
  | [d1, d2] => { results := [.lit (.bool true)], args := [d1, d2] }
  | _ => none }
def synodTrueRow : OpenClaim := { program := "ytkpfgoalohbfeaa", sum := "45f063c47315c59ba1f4e1e6cfdaf4120f66fae59d15f2b7487d8702d5d81764", func := "seawall/seawalllaw11.SynodTrue", spec := "synodTrue", unfollowed := true, recurses := true, apart := false }
def SynodTrueSaid : Prop := synodTrueRow.holds Try.pinned (OpenSpec.ofChange synodTrueSpec)

/-- ITS FALSE NEIGHBOUR: 'it returns false'. Refute it at one input. -/
def synodTrueWrong : ChangeSpec := { name := "synodTrue", fn := fun _ => fun
  | [d1, d2] => { results := [.lit (.bool false)], args := [d1, d2] }
  | _ => none }
def SynodTrueWrongFalsely : Prop := synodTrueRow.holds Try.pinned (OpenSpec.ofChange synodTrueWrong)

/-- 'seawalllaw11.SynodVotes': WHATEVER THE INPUT: true; the input reads as it did. -/
def synodVotesSpec : ChangeSpec := { name := "synodVotes", fn := fun _ => fun
  | [d1, d2] => { results := [.lit (.bool true)], args := [d1, d2] }
  | _ => none }
def synodVotesRow : OpenClaim := { program := "ytkpfgoalohbfeaa", sum := "45f063c47315c59ba1f4e1e6cfdaf4120f66fae59d15f2b7487d8702d5d81764", func := "seawall/seawalllaw11.SynodVotes", spec := "synodVotes", unfollowed := true, recurses := true, apart := false }
def SynodVotesSaid : Prop := synodVotesRow.holds Try.pinned (OpenSpec.ofChange synodVotesSpec)

/-- ITS FALSE NEIGHBOUR: 'it returns false'. Refute it at one input. -/
def synodVotesWrong : ChangeSpec := { name := "synodVotes", fn := fun _ => fun
  | [d1, d2] => { results := [.lit (.bool false)], args := [d1, d2] }
  | _ => none }
def SynodVotesWrongFalsely : Prop := synodVotesRow.holds Try.pinned (OpenSpec.ofChange synodVotesWrong)

/-- 'seawalllaw11.SynodEnds': WHATEVER THE INPUT: true; the input reads as it did. -/
def synodEndsSpec : ChangeSpec := { name := "synodEnds", fn := fun _ => fun
  | [d1, d2, d3, d4] => { results := [.lit (.bool true)], args := [d1, d2, d3, d4] }
  | _ => none }
def synodEndsRow : OpenClaim := { program := "ytkpfgoalohbfeaa", sum := "45f063c47315c59ba1f4e1e6cfdaf4120f66fae59d15f2b7487d8702d5d81764", func := "seawall/seawalllaw11.SynodEnds", spec := "synodEnds", unfollowed := true, recurses := true, apart := false }
def SynodEndsSaid : Prop := synodEndsRow.holds Try.pinned (OpenSpec.ofChange synodEndsSpec)

/-- ITS FALSE NEIGHBOUR: 'it returns false'. Refute it at one input. -/
def synodEndsWrong : ChangeSpec := { name := "synodEnds", fn := fun _ => fun
  | [d1, d2, d3, d4] => { results := [.lit (.bool false)], args := [d1, d2, d3, d4] }
  | _ => none }
def SynodEndsWrongFalsely : Prop := synodEndsRow.holds Try.pinned (OpenSpec.ofChange synodEndsWrong)

/-- 'seawalllaw11.SynodPlays': WHATEVER THE INPUT: true; the input reads as it did. -/
def synodPlaysSpec : ChangeSpec := { name := "synodPlays", fn := fun _ => fun
  | [d1, d2] => { results := [.lit (.bool true)], args := [d1, d2] }
  | _ => none }
def synodPlaysRow : OpenClaim := { program := "ytkpfgoalohbfeaa", sum := "45f063c47315c59ba1f4e1e6cfdaf4120f66fae59d15f2b7487d8702d5d81764", func := "seawall/seawalllaw11.SynodPlays", spec := "synodPlays", unfollowed := true, recurses := true, apart := false }
def SynodPlaysSaid : Prop := synodPlaysRow.holds Try.pinned (OpenSpec.ofChange synodPlaysSpec)

/-- ITS FALSE NEIGHBOUR: 'it returns false'. Refute it at one input. -/
def synodPlaysWrong : ChangeSpec := { name := "synodPlays", fn := fun _ => fun
  | [d1, d2] => { results := [.lit (.bool false)], args := [d1, d2] }
  | _ => none }
def SynodPlaysWrongFalsely : Prop := synodPlaysRow.holds Try.pinned (OpenSpec.ofChange synodPlaysWrong)

/-- 'seawalllaw11.SynodApart': WHATEVER THE INPUT: true; the input reads as it did. -/
def synodApartSpec : ChangeSpec := { name := "synodApart", fn := fun _ => fun
  | [d1, d2] => { results := [.lit (.bool true)], args := [d1, d2] }
  | _ => none }
def synodApartRow : OpenClaim := { program := "ytkpfgoalohbfeaa", sum := "45f063c47315c59ba1f4e1e6cfdaf4120f66fae59d15f2b7487d8702d5d81764", func := "seawall/seawalllaw11.SynodApart", spec := "synodApart", unfollowed := true, recurses := true, apart := false }
def SynodApartSaid : Prop := synodApartRow.holds Try.pinned (OpenSpec.ofChange synodApartSpec)

/-- ITS FALSE NEIGHBOUR: 'it returns false'. Refute it at one input. -/
def synodApartWrong : ChangeSpec := { name := "synodApart", fn := fun _ => fun
  | [d1, d2] => { results := [.lit (.bool false)], args := [d1, d2] }
  | _ => none }
def SynodApartWrongFalsely : Prop := synodApartRow.holds Try.pinned (OpenSpec.ofChange synodApartWrong)

/-- 'seawalllaw11.SynodNil': WHATEVER THE INPUT: true; the input reads as it did. -/
def synodNilSpec : ChangeSpec := { name := "synodNil", fn := fun _ => fun
  | [d1, d2] => { results := [.lit (.bool true)], args := [d1, d2] }
  | _ => none }
def synodNilRow : OpenClaim := { program := "ytkpfgoalohbfeaa", sum := "45f063c47315c59ba1f4e1e6cfdaf4120f66fae59d15f2b7487d8702d5d81764", func := "seawall/seawalllaw11.SynodNil", spec := "synodNil", unfollowed := true, recurses := true, apart := false }
def SynodNilSaid : Prop := synodNilRow.holds Try.pinned (OpenSpec.ofChange synodNilSpec)

/-- ITS FALSE NEIGHBOUR: 'it returns false'. Refute it at one input. -/
def synodNilWrong : ChangeSpec := { name := "synodNil", fn := fun _ => fun
  | [d1, d2] => { results := [.lit (.bool false)], args := [d1, d2] }
  | _ => none }
def SynodNilWrongFalsely : Prop := synodNilRow.holds Try.pinned (OpenSpec.ofChange synodNilWrong)

/- THE SECOND FORM. 'bulk': how many values and letters a reading holds, each counted each time it is reached (what is shared counts as often as it is met; a slice's spare places count too). A statement '..UptoSaid' is the law's where the arguments, and the package variables that the reading takes, are together of bulk at most 1048576: NARROWER than '..Said'. Prove '..Said' where nothing that the law and all that it calls make is longer than what came in: it says more and counts as full. Else prove '..UptoSaid'. A law counts once. -/
mutual
def uptoBulk {H : Type} : DataW H → Nat
  | .lit (.string bytes) => bytes.length + 1
  | .lit _ => 1
  | .nil => 1
  | .ptr d => uptoBulk d + 1
  | .slice elems spare => uptoBulkAll elems + uptoBulkAll spare + 1
  | .agg parts => uptoBulkAll parts + 1
  | .iface _ d => uptoBulk d + 1
  | .map entries => uptoBulkEntries entries + 1
  | .held _ => 1
def uptoBulkAll {H : Type} : List (DataW H) → Nat
  | [] => 0
  | d :: r => uptoBulk d + uptoBulkAll r
def uptoBulkEntries {H : Type} : List (Lit × DataW H) → Nat
  | [] => 0
  | x :: r => uptoBulkEntry x + uptoBulkEntries r
def uptoBulkEntry {H : Type} : Lit × DataW H → Nat
  | (.string bytes, d) => bytes.length + uptoBulk d + 1
  | (_, d) => uptoBulk d + 1
 end
def uptoSmall : (H : Type) → List (DataW H) → Bool := fun _ ds => decide (uptoBulkAll ds ≤ 1048576)
def OpenSpec.upto (s : _root_.Go.ChangeSpec) : _root_.Go.OpenSpec := { _root_.Go.OpenSpec.ofChange s with cond := some uptoSmall }

/-- 'seawalllaw11.SynodOne', WHERE WHAT IT READS IS OF BULK AT MOST 1048576: true; the input reads as it did. -/
def synodOneUptoRow : OpenClaim := { program := "ytkpfgoalohbfeaa", sum := "45f063c47315c59ba1f4e1e6cfdaf4120f66fae59d15f2b7487d8702d5d81764", func := "seawall/seawalllaw11.SynodOne", spec := "synodOne", unfollowed := true, recurses := true, apart := false, narrowed := true }
def SynodOneUptoSaid : Prop := synodOneUptoRow.holds Try.pinned (OpenSpec.upto synodOneSpec)

/-- 'seawalllaw11.SynodTrue', WHERE WHAT IT READS IS OF BULK AT MOST 1048576: true; the input reads as it did. -/
def synodTrueUptoRow : OpenClaim := { program := "ytkpfgoalohbfeaa", sum := "45f063c47315c59ba1f4e1e6cfdaf4120f66fae59d15f2b7487d8702d5d81764", func := "seawall/seawalllaw11.SynodTrue", spec := "synodTrue", unfollowed := true, recurses := true, apart := false, narrowed := true }
def SynodTrueUptoSaid : Prop := synodTrueUptoRow.holds Try.pinned (OpenSpec.upto synodTrueSpec)

/-- 'seawalllaw11.SynodVotes', WHERE WHAT IT READS IS OF BULK AT MOST 1048576: true; the input reads as it did. -/
def synodVotesUptoRow : OpenClaim := { program := "ytkpfgoalohbfeaa", sum := "45f063c47315c59ba1f4e1e6cfdaf4120f66fae59d15f2b7487d8702d5d81764", func := "seawall/seawalllaw11.SynodVotes", spec := "synodVotes", unfollowed := true, recurses := true, apart := false, narrowed := true }
def SynodVotesUptoSaid : Prop := synodVotesUptoRow.holds Try.pinned (OpenSpec.upto synodVotesSpec)

/-- 'seawalllaw11.SynodEnds', WHERE WHAT IT READS IS OF BULK AT MOST 1048576: true; the input reads as it did. -/
def synodEndsUptoRow : OpenClaim := { program := "ytkpfgoalohbfeaa", sum := "45f063c47315c59ba1f4e1e6cfdaf4120f66fae59d15f2b7487d8702d5d81764", func := "seawall/seawalllaw11.SynodEnds", spec := "synodEnds", unfollowed := true, recurses := true, apart := false, narrowed := true }
def SynodEndsUptoSaid : Prop := synodEndsUptoRow.holds Try.pinned (OpenSpec.upto synodEndsSpec)

/-- 'seawalllaw11.SynodPlays', WHERE WHAT IT READS IS OF BULK AT MOST 1048576: true; the input reads as it did. -/
def synodPlaysUptoRow : OpenClaim := { program := "ytkpfgoalohbfeaa", sum := "45f063c47315c59ba1f4e1e6cfdaf4120f66fae59d15f2b7487d8702d5d81764", func := "seawall/seawalllaw11.SynodPlays", spec := "synodPlays", unfollowed := true, recurses := true, apart := false, narrowed := true }
def SynodPlaysUptoSaid : Prop := synodPlaysUptoRow.holds Try.pinned (OpenSpec.upto synodPlaysSpec)

/-- 'seawalllaw11.SynodApart', WHERE WHAT IT READS IS OF BULK AT MOST 1048576: true; the input reads as it did. -/
def synodApartUptoRow : OpenClaim := { program := "ytkpfgoalohbfeaa", sum := "45f063c47315c59ba1f4e1e6cfdaf4120f66fae59d15f2b7487d8702d5d81764", func := "seawall/seawalllaw11.SynodApart", spec := "synodApart", unfollowed := true, recurses := true, apart := false, narrowed := true }
def SynodApartUptoSaid : Prop := synodApartUptoRow.holds Try.pinned (OpenSpec.upto synodApartSpec)

/-- 'seawalllaw11.SynodNil', WHERE WHAT IT READS IS OF BULK AT MOST 1048576: true; the input reads as it did. -/
def synodNilUptoRow : OpenClaim := { program := "ytkpfgoalohbfeaa", sum := "45f063c47315c59ba1f4e1e6cfdaf4120f66fae59d15f2b7487d8702d5d81764", func := "seawall/seawalllaw11.SynodNil", spec := "synodNil", unfollowed := true, recurses := true, apart := false, narrowed := true }
def SynodNilUptoSaid : Prop := synodNilUptoRow.holds Try.pinned (OpenSpec.upto synodNilSpec)

end Rows
end Go.Proofs.Ytkpfgoalohbfeaa
