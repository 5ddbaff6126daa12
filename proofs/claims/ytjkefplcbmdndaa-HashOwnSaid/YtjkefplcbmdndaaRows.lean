/-
  No cell of these rows narrows 'for every input' (looked for: loops, veiled, ifaces, maps, wideKeys, modest, calm, conditions, laid).
  DERIVED. THE GIVEN ROWS OF THIS SEAT. 8 by the template 'for every input the law returns true; each argument reads behind the call as it read before'; 0 by the template 'total and deterministic' (their statements: YtjkefplcbmdndaaTotals.lean).
  GIVEN WITH THE SEED: the statements are not yours to turn. If you find one false, say at which input.
  Laid BY PROGRAM, IN A SANDBOX (cutbox-rows.mjs): the forced cells as the released guide's own fill.sh prints them over the translation 47da31f2c252e981… (all of the seat's roots in one cut). By AI agents, Wed Nov 11 2026. No macro, syntax, notation, axiom, sorry.
-/
import Derived.Test.YtjkefplcbmdndaaChecked
import GoSem.Claim
import GoSem.ClaimJoined
import GoSem.ClaimMapViews
import Derived.JoinedTies
import Derived.KernelRfl
namespace Go.Proofs.Ytjkefplcbmdndaa
/- THE CELL 'sum', in the pinned program and in every row, IS THE sha256 OF THE DUMP (.gsa) THAT YtjkefplcbmdndaaProg.lean LOADS. Nothing in Lean hashes anything: it is a label: what it is worth is what the hold of that sum in a sandbox is worth. -/
noncomputable def Try.pinned : Pinned := { name := "ytjkefplcbmdndaa", sum := "47da31f2c252e981ca964404ae845494fa4c7f9defdc024ce4e006c3d659a077", checked := Try.checked }
namespace Rows
def none {H : Type} : Left H := { results := [], args := [] }

/-- 'hypercubelaw7.HashPlays': WHATEVER THE INPUT: true; the input reads as it did. -/
def hashPlaysSpec : ChangeSpec := { name := "hashPlays", fn := fun _ => fun
  | [d1, d2, d3, d4, d5, d6, d7] => { results := [.lit (.bool true)], args := [d1, d2, d3, d4, d5, d6, d7] }
  | _ => none }
def hashPlaysRow : OpenClaim := { program := "ytjkefplcbmdndaa", sum := "47da31f2c252e981ca964404ae845494fa4c7f9defdc024ce4e006c3d659a077", func := "hypercube/hypercubelaw7.HashPlays", spec := "hashPlays", inPlace := ["slices.overlaps[hypercube/api.Cell]"], unfollowed := true, recurses := true, apart := false }
def HashPlaysSaid : Prop := hashPlaysRow.holds Try.pinned (OpenSpec.ofChange hashPlaysSpec)

/-- ITS FALSE NEIGHBOUR: 'it returns false'. Refute it at one input. -/
def hashPlaysWrong : ChangeSpec := { name := "hashPlays", fn := fun _ => fun
  | [d1, d2, d3, d4, d5, d6, d7] => { results := [.lit (.bool false)], args := [d1, d2, d3, d4, d5, d6, d7] }
  | _ => none }
def HashPlaysWrongFalsely : Prop := hashPlaysRow.holds Try.pinned (OpenSpec.ofChange hashPlaysWrong)

/-- 'hypercubelaw7.HashGroups': WHATEVER THE INPUT: true; the input reads as it did. -/
def hashGroupsSpec : ChangeSpec := { name := "hashGroups", fn := fun _ => fun
  | [d1, d2, d3, d4, d5, d6] => { results := [.lit (.bool true)], args := [d1, d2, d3, d4, d5, d6] }
  | _ => none }
def hashGroupsRow : OpenClaim := { program := "ytjkefplcbmdndaa", sum := "47da31f2c252e981ca964404ae845494fa4c7f9defdc024ce4e006c3d659a077", func := "hypercube/hypercubelaw7.HashGroups", spec := "hashGroups", inPlace := ["slices.overlaps[hypercube/api.Cell]"], unfollowed := true, recurses := true, apart := false }
def HashGroupsSaid : Prop := hashGroupsRow.holds Try.pinned (OpenSpec.ofChange hashGroupsSpec)

/-- ITS FALSE NEIGHBOUR: 'it returns false'. Refute it at one input. -/
def hashGroupsWrong : ChangeSpec := { name := "hashGroups", fn := fun _ => fun
  | [d1, d2, d3, d4, d5, d6] => { results := [.lit (.bool false)], args := [d1, d2, d3, d4, d5, d6] }
  | _ => none }
def HashGroupsWrongFalsely : Prop := hashGroupsRow.holds Try.pinned (OpenSpec.ofChange hashGroupsWrong)

/-- 'hypercubelaw7.HashFull': WHATEVER THE INPUT: true; the input reads as it did. -/
def hashFullSpec : ChangeSpec := { name := "hashFull", fn := fun _ => fun
  | [d1, d2] => { results := [.lit (.bool true)], args := [d1, d2] }
  | _ => none }
def hashFullRow : OpenClaim := { program := "ytjkefplcbmdndaa", sum := "47da31f2c252e981ca964404ae845494fa4c7f9defdc024ce4e006c3d659a077", func := "hypercube/hypercubelaw7.HashFull", spec := "hashFull", inPlace := ["slices.overlaps[hypercube/api.Cell]"], unfollowed := true, recurses := true, apart := false }
def HashFullSaid : Prop := hashFullRow.holds Try.pinned (OpenSpec.ofChange hashFullSpec)

/-- ITS FALSE NEIGHBOUR: 'it returns false'. Refute it at one input. -/
def hashFullWrong : ChangeSpec := { name := "hashFull", fn := fun _ => fun
  | [d1, d2] => { results := [.lit (.bool false)], args := [d1, d2] }
  | _ => none }
def HashFullWrongFalsely : Prop := hashFullRow.holds Try.pinned (OpenSpec.ofChange hashFullWrong)

/-- 'hypercubelaw7.HashParts': WHATEVER THE INPUT: true; the input reads as it did. -/
def hashPartsSpec : ChangeSpec := { name := "hashParts", fn := fun _ => fun
  | [d1, d2, d3, d4, d5, d6] => { results := [.lit (.bool true)], args := [d1, d2, d3, d4, d5, d6] }
  | _ => none }
def hashPartsRow : OpenClaim := { program := "ytjkefplcbmdndaa", sum := "47da31f2c252e981ca964404ae845494fa4c7f9defdc024ce4e006c3d659a077", func := "hypercube/hypercubelaw7.HashParts", spec := "hashParts", inPlace := ["slices.overlaps[hypercube/api.Cell]"], unfollowed := true, recurses := true, apart := false }
def HashPartsSaid : Prop := hashPartsRow.holds Try.pinned (OpenSpec.ofChange hashPartsSpec)

/-- ITS FALSE NEIGHBOUR: 'it returns false'. Refute it at one input. -/
def hashPartsWrong : ChangeSpec := { name := "hashParts", fn := fun _ => fun
  | [d1, d2, d3, d4, d5, d6] => { results := [.lit (.bool false)], args := [d1, d2, d3, d4, d5, d6] }
  | _ => none }
def HashPartsWrongFalsely : Prop := hashPartsRow.holds Try.pinned (OpenSpec.ofChange hashPartsWrong)

/-- 'hypercubelaw7.HashOwn': WHATEVER THE INPUT: true; the input reads as it did. -/
def hashOwnSpec : ChangeSpec := { name := "hashOwn", fn := fun _ => fun
  | [d1, d2, d3, d4, d5, d6] => { results := [.lit (.bool true)], args := [d1, d2, d3, d4, d5, d6] }
  | _ => none }
def hashOwnRow : OpenClaim := { program := "ytjkefplcbmdndaa", sum := "47da31f2c252e981ca964404ae845494fa4c7f9defdc024ce4e006c3d659a077", func := "hypercube/hypercubelaw7.HashOwn", spec := "hashOwn", inPlace := ["slices.overlaps[hypercube/api.Cell]"], unfollowed := true, recurses := true, apart := false }
def HashOwnSaid : Prop := hashOwnRow.holds Try.pinned (OpenSpec.ofChange hashOwnSpec)

/-- ITS FALSE NEIGHBOUR: 'it returns false'. Refute it at one input. -/
def hashOwnWrong : ChangeSpec := { name := "hashOwn", fn := fun _ => fun
  | [d1, d2, d3, d4, d5, d6] => { results := [.lit (.bool false)], args := [d1, d2, d3, d4, d5, d6] }
  | _ => none }
def HashOwnWrongFalsely : Prop := hashOwnRow.holds Try.pinned (OpenSpec.ofChange hashOwnWrong)

/-- 'hypercubelaw7.HashGets': WHATEVER THE INPUT: true; the input reads as it did. -/
def hashGetsSpec : ChangeSpec := { name := "hashGets", fn := fun _ => fun
  | [d1, d2, d3, d4, d5, d6] => { results := [.lit (.bool true)], args := [d1, d2, d3, d4, d5, d6] }
  | _ => none }
def hashGetsRow : OpenClaim := { program := "ytjkefplcbmdndaa", sum := "47da31f2c252e981ca964404ae845494fa4c7f9defdc024ce4e006c3d659a077", func := "hypercube/hypercubelaw7.HashGets", spec := "hashGets", inPlace := ["slices.overlaps[hypercube/api.Cell]"], unfollowed := true, recurses := true, apart := false }
def HashGetsSaid : Prop := hashGetsRow.holds Try.pinned (OpenSpec.ofChange hashGetsSpec)

/-- ITS FALSE NEIGHBOUR: 'it returns false'. Refute it at one input. -/
def hashGetsWrong : ChangeSpec := { name := "hashGets", fn := fun _ => fun
  | [d1, d2, d3, d4, d5, d6] => { results := [.lit (.bool false)], args := [d1, d2, d3, d4, d5, d6] }
  | _ => none }
def HashGetsWrongFalsely : Prop := hashGetsRow.holds Try.pinned (OpenSpec.ofChange hashGetsWrong)

/-- 'hypercubelaw7.HashPlaces': WHATEVER THE INPUT: true; the input reads as it did. -/
def hashPlacesSpec : ChangeSpec := { name := "hashPlaces", fn := fun _ => fun
  | [d1, d2] => { results := [.lit (.bool true)], args := [d1, d2] }
  | _ => none }
def hashPlacesRow : OpenClaim := { program := "ytjkefplcbmdndaa", sum := "47da31f2c252e981ca964404ae845494fa4c7f9defdc024ce4e006c3d659a077", func := "hypercube/hypercubelaw7.HashPlaces", spec := "hashPlaces", inPlace := ["slices.overlaps[hypercube/api.Cell]"], unfollowed := true, recurses := true, apart := false }
def HashPlacesSaid : Prop := hashPlacesRow.holds Try.pinned (OpenSpec.ofChange hashPlacesSpec)

/-- ITS FALSE NEIGHBOUR: 'it returns false'. Refute it at one input. -/
def hashPlacesWrong : ChangeSpec := { name := "hashPlaces", fn := fun _ => fun
  | [d1, d2] => { results := [.lit (.bool false)], args := [d1, d2] }
  | _ => none }
def HashPlacesWrongFalsely : Prop := hashPlacesRow.holds Try.pinned (OpenSpec.ofChange hashPlacesWrong)

/-- 'hypercubelaw7.HashOrders': WHATEVER THE INPUT: true; the input reads as it did. -/
def hashOrdersSpec : ChangeSpec := { name := "hashOrders", fn := fun _ => fun
  | [d1, d2, d3, d4, d5, d6, d7] => { results := [.lit (.bool true)], args := [d1, d2, d3, d4, d5, d6, d7] }
  | _ => none }
def hashOrdersRow : OpenClaim := { program := "ytjkefplcbmdndaa", sum := "47da31f2c252e981ca964404ae845494fa4c7f9defdc024ce4e006c3d659a077", func := "hypercube/hypercubelaw7.HashOrders", spec := "hashOrders", inPlace := ["slices.overlaps[hypercube/api.Cell]"], unfollowed := true, recurses := true, apart := false }
def HashOrdersSaid : Prop := hashOrdersRow.holds Try.pinned (OpenSpec.ofChange hashOrdersSpec)

/-- ITS FALSE NEIGHBOUR: 'it returns false'. Refute it at one input. -/
def hashOrdersWrong : ChangeSpec := { name := "hashOrders", fn := fun _ => fun
  | [d1, d2, d3, d4, d5, d6, d7] => { results := [.lit (.bool false)], args := [d1, d2, d3, d4, d5, d6, d7] }
  | _ => none }
def HashOrdersWrongFalsely : Prop := hashOrdersRow.holds Try.pinned (OpenSpec.ofChange hashOrdersWrong)

/- THE SECOND FORM. 'bulk': how many values and letters a reading holds, each counted each time it is reached (what is shared counts as often as it is met; a slice's spare places count too). A statement '..UptoSaid' is the law's where the arguments, and the package variables that the reading takes, are together of bulk at most 1048576: NARROWER than '..Said'. Prove '..Said' where nothing that the law and all that it calls make is longer than what came in: it says more and counts as full. Else prove '..UptoSaid'. A law counts once. -/
mutual
def uptoBulk {H : Type} : DataW H → Nat
  | .lit (.string bytes) => bytes.length + 1
  | .lit _ => 1
  | .nil => 1
  | .ptr d => uptoBulk d + 1
  | .slice elems spare => uptoBulkAll elems + uptoBulkAll spare + 1
  | .agg parts => uptoBulkAll parts + 1
  | .iface _ d => uptoBulk d + 1
  | .map entries => uptoBulkEntries entries + 1
  | .held _ => 1
def uptoBulkAll {H : Type} : List (DataW H) → Nat
  | [] => 0
  | d :: r => uptoBulk d + uptoBulkAll r
def uptoBulkEntries {H : Type} : List (Lit × DataW H) → Nat
  | [] => 0
  | x :: r => uptoBulkEntry x + uptoBulkEntries r
def uptoBulkEntry {H : Type} : Lit × DataW H → Nat
  | (.string bytes, d) => bytes.length + uptoBulk d + 1
  | (_, d) => uptoBulk d + 1
 end
def uptoSmall : (H : Type) → List (DataW H) → Bool := fun _ ds => decide (uptoBulkAll ds ≤ 1048576)
def OpenSpec.upto (s : _root_.Go.ChangeSpec) : _root_.Go.OpenSpec := { _root_.Go.OpenSpec.ofChange s with cond := some uptoSmall }

/-- 'hypercubelaw7.HashPlays', WHERE WHAT IT READS IS OF BULK AT MOST 1048576: true; the input reads as it did. -/
def hashPlaysUptoRow : OpenClaim := { program := "ytjkefplcbmdndaa", sum := "47da31f2c252e981ca964404ae845494fa4c7f9defdc024ce4e006c3d659a077", func := "hypercube/hypercubelaw7.HashPlays", spec := "hashPlays", inPlace := ["slices.overlaps[hypercube/api.Cell]"], unfollowed := true, recurses := true, apart := false, narrowed := true }
def HashPlaysUptoSaid : Prop := hashPlaysUptoRow.holds Try.pinned (OpenSpec.upto hashPlaysSpec)

/-- 'hypercubelaw7.HashGroups', WHERE WHAT IT READS IS OF BULK AT MOST 1048576: true; the input reads as it did. -/
def hashGroupsUptoRow : OpenClaim := { program := "ytjkefplcbmdndaa", sum := "47da31f2c252e981ca964404ae845494fa4c7f9defdc024ce4e006c3d659a077", func := "hypercube/hypercubelaw7.HashGroups", spec := "hashGroups", inPlace := ["slices.overlaps[hypercube/api.Cell]"], unfollowed := true, recurses := true, apart := false, narrowed := true }
def HashGroupsUptoSaid : Prop := hashGroupsUptoRow.holds Try.pinned (OpenSpec.upto hashGroupsSpec)

/-- 'hypercubelaw7.HashFull', WHERE WHAT IT READS IS OF BULK AT MOST 1048576: true; the input reads as it did. -/
def hashFullUptoRow : OpenClaim := { program := "ytjkefplcbmdndaa", sum := "47da31f2c252e981ca964404ae845494fa4c7f9defdc024ce4e006c3d659a077", func := "hypercube/hypercubelaw7.HashFull", spec := "hashFull", inPlace := ["slices.overlaps[hypercube/api.Cell]"], unfollowed := true, recurses := true, apart := false, narrowed := true }
def HashFullUptoSaid : Prop := hashFullUptoRow.holds Try.pinned (OpenSpec.upto hashFullSpec)

/-- 'hypercubelaw7.HashParts', WHERE WHAT IT READS IS OF BULK AT MOST 1048576: true; the input reads as it did. -/
def hashPartsUptoRow : OpenClaim := { program := "ytjkefplcbmdndaa", sum := "47da31f2c252e981ca964404ae845494fa4c7f9defdc024ce4e006c3d659a077", func := "hypercube/hypercubelaw7.HashParts", spec := "hashParts", inPlace := ["slices.overlaps[hypercube/api.Cell]"], unfollowed := true, recurses := true, apart := false, narrowed := true }
def HashPartsUptoSaid : Prop := hashPartsUptoRow.holds Try.pinned (OpenSpec.upto hashPartsSpec)

/-- 'hypercubelaw7.HashOwn', WHERE WHAT IT READS IS OF BULK AT MOST 1048576: true; the input reads as it did. -/
def hashOwnUptoRow : OpenClaim := { program := "ytjkefplcbmdndaa", sum := "47da31f2c252e981ca964404ae845494fa4c7f9defdc024ce4e006c3d659a077", func := "hypercube/hypercubelaw7.HashOwn", spec := "hashOwn", inPlace := ["slices.overlaps[hypercube/api.Cell]"], unfollowed := true, recurses := true, apart := false, narrowed := true }
def HashOwnUptoSaid : Prop := hashOwnUptoRow.holds Try.pinned (OpenSpec.upto hashOwnSpec)

/-- 'hypercubelaw7.HashGets', WHERE WHAT IT READS IS OF BULK AT MOST 1048576: true; the input reads as it did. -/
def hashGetsUptoRow : OpenClaim := { program := "ytjkefplcbmdndaa", sum := "47da31f2c252e981ca964404ae845494fa4c7f9defdc024ce4e006c3d659a077", func := "hypercube/hypercubelaw7.HashGets", spec := "hashGets", inPlace := ["slices.overlaps[hypercube/api.Cell]"], unfollowed := true, recurses := true, apart := false, narrowed := true }
def HashGetsUptoSaid : Prop := hashGetsUptoRow.holds Try.pinned (OpenSpec.upto hashGetsSpec)

/-- 'hypercubelaw7.HashPlaces', WHERE WHAT IT READS IS OF BULK AT MOST 1048576: true; the input reads as it did. -/
def hashPlacesUptoRow : OpenClaim := { program := "ytjkefplcbmdndaa", sum := "47da31f2c252e981ca964404ae845494fa4c7f9defdc024ce4e006c3d659a077", func := "hypercube/hypercubelaw7.HashPlaces", spec := "hashPlaces", inPlace := ["slices.overlaps[hypercube/api.Cell]"], unfollowed := true, recurses := true, apart := false, narrowed := true }
def HashPlacesUptoSaid : Prop := hashPlacesUptoRow.holds Try.pinned (OpenSpec.upto hashPlacesSpec)

/-- 'hypercubelaw7.HashOrders', WHERE WHAT IT READS IS OF BULK AT MOST 1048576: true; the input reads as it did. -/
def hashOrdersUptoRow : OpenClaim := { program := "ytjkefplcbmdndaa", sum := "47da31f2c252e981ca964404ae845494fa4c7f9defdc024ce4e006c3d659a077", func := "hypercube/hypercubelaw7.HashOrders", spec := "hashOrders", inPlace := ["slices.overlaps[hypercube/api.Cell]"], unfollowed := true, recurses := true, apart := false, narrowed := true }
def HashOrdersUptoSaid : Prop := hashOrdersUptoRow.holds Try.pinned (OpenSpec.upto hashOrdersSpec)

end Rows
end Go.Proofs.Ytjkefplcbmdndaa
