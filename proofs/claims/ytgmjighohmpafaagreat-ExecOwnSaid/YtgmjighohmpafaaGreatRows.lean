/-
  No cell of these rows narrows 'for every input' (looked for: loops, veiled, ifaces, maps, wideKeys, modest, calm, conditions, laid).
  DERIVED. THE GIVEN ROWS OF THIS SEAT. 8 by the template 'for every input the law returns true; each argument reads behind the call as it read before'; 0 by the template 'total and deterministic' (their statements: YtgmjighohmpafaaGreatTotals.lean).
  GIVEN WITH THE SEED: the statements are not yours to turn. If you find one false, say at which input.
  Laid BY PROGRAM, IN A SANDBOX (cutbox-rows.mjs): the forced cells as the released guide's own fill.sh prints them over the translation 57f6d007846a67e5… (all of the seat's roots in one cut). By AI agents, Wed Nov 11 2026. No macro, syntax, notation, axiom, sorry.
-/
import Derived.Test.YtgmjighohmpafaaGreatChecked
import GoSem.Claim
import GoSem.ClaimJoined
import GoSem.ClaimMapViews
import Derived.JoinedTies
import Derived.KernelRfl
namespace Go.Proofs.YtgmjighohmpafaaGreat
/- THE CELL 'sum', in the pinned program and in every row, IS THE sha256 OF THE DUMP (.gsa) THAT YtgmjighohmpafaaGreatProg.lean LOADS. Nothing in Lean hashes anything: it is a label: what it is worth is what the hold of that sum in a sandbox is worth. -/
noncomputable def Tryz.pinned : Pinned := { name := "ytgmjighohmpafaagreat", sum := "57f6d007846a67e5680adc60de1b7d69197bd000a96be6eda5523f3172bd7910", checked := Tryz.checked }
namespace Rows
def none {H : Type} : Left H := { results := [], args := [] }

/-- 'hypercubelaw12.ExecAll': WHATEVER THE INPUT: true; the input reads as it did. -/
def execAllSpec : ChangeSpec := { name := "execAll", fn := fun _ => fun
  | [d1, d2, d3, d4, d5, d6, d7, d8, d9] => { results := [.lit (.bool true)], args := [d1, d2, d3, d4, d5, d6, d7, d8, d9] }
  | _ => none }
def execAllRow : OpenClaim := { program := "ytgmjighohmpafaagreat", sum := "57f6d007846a67e5680adc60de1b7d69197bd000a96be6eda5523f3172bd7910", func := "hypercube/hypercubelaw12.ExecAll", spec := "execAll", inPlace := ["slices.overlaps[hypercube/api.Cell]"], unfollowed := true, recurses := true, apart := false }
def ExecAllSaid : Prop := execAllRow.holds Tryz.pinned (OpenSpec.ofChange execAllSpec)

/-- ITS FALSE NEIGHBOUR: 'it returns false'. Refute it at one input. -/
def execAllWrong : ChangeSpec := { name := "execAll", fn := fun _ => fun
  | [d1, d2, d3, d4, d5, d6, d7, d8, d9] => { results := [.lit (.bool false)], args := [d1, d2, d3, d4, d5, d6, d7, d8, d9] }
  | _ => none }
def ExecAllWrongFalsely : Prop := execAllRow.holds Tryz.pinned (OpenSpec.ofChange execAllWrong)

/-- 'hypercubelaw12.ExecGroups': WHATEVER THE INPUT: true; the input reads as it did. -/
def execGroupsSpec : ChangeSpec := { name := "execGroups", fn := fun _ => fun
  | [d1, d2, d3, d4, d5, d6, d7, d8] => { results := [.lit (.bool true)], args := [d1, d2, d3, d4, d5, d6, d7, d8] }
  | _ => none }
def execGroupsRow : OpenClaim := { program := "ytgmjighohmpafaagreat", sum := "57f6d007846a67e5680adc60de1b7d69197bd000a96be6eda5523f3172bd7910", func := "hypercube/hypercubelaw12.ExecGroups", spec := "execGroups", inPlace := ["slices.overlaps[hypercube/api.Cell]"], unfollowed := true, recurses := true, apart := false }
def ExecGroupsSaid : Prop := execGroupsRow.holds Tryz.pinned (OpenSpec.ofChange execGroupsSpec)

/-- ITS FALSE NEIGHBOUR: 'it returns false'. Refute it at one input. -/
def execGroupsWrong : ChangeSpec := { name := "execGroups", fn := fun _ => fun
  | [d1, d2, d3, d4, d5, d6, d7, d8] => { results := [.lit (.bool false)], args := [d1, d2, d3, d4, d5, d6, d7, d8] }
  | _ => none }
def ExecGroupsWrongFalsely : Prop := execGroupsRow.holds Tryz.pinned (OpenSpec.ofChange execGroupsWrong)

/-- 'hypercubelaw12.ExecBounds': WHATEVER THE INPUT: true; the input reads as it did. -/
def execBoundsSpec : ChangeSpec := { name := "execBounds", fn := fun _ => fun
  | [d1, d2, d3, d4, d5, d6, d7, d8] => { results := [.lit (.bool true)], args := [d1, d2, d3, d4, d5, d6, d7, d8] }
  | _ => none }
def execBoundsRow : OpenClaim := { program := "ytgmjighohmpafaagreat", sum := "57f6d007846a67e5680adc60de1b7d69197bd000a96be6eda5523f3172bd7910", func := "hypercube/hypercubelaw12.ExecBounds", spec := "execBounds", inPlace := ["slices.overlaps[hypercube/api.Cell]"], unfollowed := true, recurses := true, apart := false }
def ExecBoundsSaid : Prop := execBoundsRow.holds Tryz.pinned (OpenSpec.ofChange execBoundsSpec)

/-- ITS FALSE NEIGHBOUR: 'it returns false'. Refute it at one input. -/
def execBoundsWrong : ChangeSpec := { name := "execBounds", fn := fun _ => fun
  | [d1, d2, d3, d4, d5, d6, d7, d8] => { results := [.lit (.bool false)], args := [d1, d2, d3, d4, d5, d6, d7, d8] }
  | _ => none }
def ExecBoundsWrongFalsely : Prop := execBoundsRow.holds Tryz.pinned (OpenSpec.ofChange execBoundsWrong)

/-- 'hypercubelaw12.ExecTwice': WHATEVER THE INPUT: true; the input reads as it did. -/
def execTwiceSpec : ChangeSpec := { name := "execTwice", fn := fun _ => fun
  | [d1, d2, d3, d4, d5, d6, d7, d8, d9] => { results := [.lit (.bool true)], args := [d1, d2, d3, d4, d5, d6, d7, d8, d9] }
  | _ => none }
def execTwiceRow : OpenClaim := { program := "ytgmjighohmpafaagreat", sum := "57f6d007846a67e5680adc60de1b7d69197bd000a96be6eda5523f3172bd7910", func := "hypercube/hypercubelaw12.ExecTwice", spec := "execTwice", inPlace := ["slices.overlaps[hypercube/api.Cell]"], unfollowed := true, recurses := true, apart := false }
def ExecTwiceSaid : Prop := execTwiceRow.holds Tryz.pinned (OpenSpec.ofChange execTwiceSpec)

/-- ITS FALSE NEIGHBOUR: 'it returns false'. Refute it at one input. -/
def execTwiceWrong : ChangeSpec := { name := "execTwice", fn := fun _ => fun
  | [d1, d2, d3, d4, d5, d6, d7, d8, d9] => { results := [.lit (.bool false)], args := [d1, d2, d3, d4, d5, d6, d7, d8, d9] }
  | _ => none }
def ExecTwiceWrongFalsely : Prop := execTwiceRow.holds Tryz.pinned (OpenSpec.ofChange execTwiceWrong)

/-- 'hypercubelaw12.ExecOwn': WHATEVER THE INPUT: true; the input reads as it did. -/
def execOwnSpec : ChangeSpec := { name := "execOwn", fn := fun _ => fun
  | [d1, d2, d3, d4, d5, d6, d7] => { results := [.lit (.bool true)], args := [d1, d2, d3, d4, d5, d6, d7] }
  | _ => none }
def execOwnRow : OpenClaim := { program := "ytgmjighohmpafaagreat", sum := "57f6d007846a67e5680adc60de1b7d69197bd000a96be6eda5523f3172bd7910", func := "hypercube/hypercubelaw12.ExecOwn", spec := "execOwn", inPlace := ["slices.overlaps[hypercube/api.Cell]"], unfollowed := true, recurses := true, apart := false }
def ExecOwnSaid : Prop := execOwnRow.holds Tryz.pinned (OpenSpec.ofChange execOwnSpec)

/-- ITS FALSE NEIGHBOUR: 'it returns false'. Refute it at one input. -/
def execOwnWrong : ChangeSpec := { name := "execOwn", fn := fun _ => fun
  | [d1, d2, d3, d4, d5, d6, d7] => { results := [.lit (.bool false)], args := [d1, d2, d3, d4, d5, d6, d7] }
  | _ => none }
def ExecOwnWrongFalsely : Prop := execOwnRow.holds Tryz.pinned (OpenSpec.ofChange execOwnWrong)

/-- 'hypercubelaw12.ExecAlike': WHATEVER THE INPUT: true; the input reads as it did. -/
def execAlikeSpec : ChangeSpec := { name := "execAlike", fn := fun _ => fun
  | [d1, d2, d3, d4, d5, d6, d7, d8] => { results := [.lit (.bool true)], args := [d1, d2, d3, d4, d5, d6, d7, d8] }
  | _ => none }
def execAlikeRow : OpenClaim := { program := "ytgmjighohmpafaagreat", sum := "57f6d007846a67e5680adc60de1b7d69197bd000a96be6eda5523f3172bd7910", func := "hypercube/hypercubelaw12.ExecAlike", spec := "execAlike", inPlace := ["slices.overlaps[hypercube/api.Cell]"], unfollowed := true, recurses := true, apart := false }
def ExecAlikeSaid : Prop := execAlikeRow.holds Tryz.pinned (OpenSpec.ofChange execAlikeSpec)

/-- ITS FALSE NEIGHBOUR: 'it returns false'. Refute it at one input. -/
def execAlikeWrong : ChangeSpec := { name := "execAlike", fn := fun _ => fun
  | [d1, d2, d3, d4, d5, d6, d7, d8] => { results := [.lit (.bool false)], args := [d1, d2, d3, d4, d5, d6, d7, d8] }
  | _ => none }
def ExecAlikeWrongFalsely : Prop := execAlikeRow.holds Tryz.pinned (OpenSpec.ofChange execAlikeWrong)

/-- 'hypercubelaw12.ExecGreat': WHATEVER THE INPUT: true; the input reads as it did. -/
def execGreatSpec : ChangeSpec := { name := "execGreat", fn := fun _ => fun
  | [d1, d2, d3, d4, d5, d6, d7] => { results := [.lit (.bool true)], args := [d1, d2, d3, d4, d5, d6, d7] }
  | _ => none }
def execGreatRow : OpenClaim := { program := "ytgmjighohmpafaagreat", sum := "57f6d007846a67e5680adc60de1b7d69197bd000a96be6eda5523f3172bd7910", func := "hypercube/hypercubelaw12.ExecGreat", spec := "execGreat", inPlace := ["slices.overlaps[hypercube/api.Cell]"], unfollowed := true, recurses := true, apart := false }
def ExecGreatSaid : Prop := execGreatRow.holds Tryz.pinned (OpenSpec.ofChange execGreatSpec)

/-- ITS FALSE NEIGHBOUR: 'it returns false'. Refute it at one input. -/
def execGreatWrong : ChangeSpec := { name := "execGreat", fn := fun _ => fun
  | [d1, d2, d3, d4, d5, d6, d7] => { results := [.lit (.bool false)], args := [d1, d2, d3, d4, d5, d6, d7] }
  | _ => none }
def ExecGreatWrongFalsely : Prop := execGreatRow.holds Tryz.pinned (OpenSpec.ofChange execGreatWrong)

/-- 'hypercubelaw12.ExecTotal': WHATEVER THE INPUT: true; the input reads as it did. -/
def execTotalSpec : ChangeSpec := { name := "execTotal", fn := fun _ => fun
  | [d1, d2, d3, d4, d5, d6, d7] => { results := [.lit (.bool true)], args := [d1, d2, d3, d4, d5, d6, d7] }
  | _ => none }
def execTotalRow : OpenClaim := { program := "ytgmjighohmpafaagreat", sum := "57f6d007846a67e5680adc60de1b7d69197bd000a96be6eda5523f3172bd7910", func := "hypercube/hypercubelaw12.ExecTotal", spec := "execTotal", inPlace := ["slices.overlaps[hypercube/api.Cell]"], unfollowed := true, recurses := true, apart := false }
def ExecTotalSaid : Prop := execTotalRow.holds Tryz.pinned (OpenSpec.ofChange execTotalSpec)

/-- ITS FALSE NEIGHBOUR: 'it returns false'. Refute it at one input. -/
def execTotalWrong : ChangeSpec := { name := "execTotal", fn := fun _ => fun
  | [d1, d2, d3, d4, d5, d6, d7] => { results := [.lit (.bool false)], args := [d1, d2, d3, d4, d5, d6, d7] }
  | _ => none }
def ExecTotalWrongFalsely : Prop := execTotalRow.holds Tryz.pinned (OpenSpec.ofChange execTotalWrong)

/- THE SECOND FORM. 'bulk': how many values and letters a reading holds, each counted each time it is reached (what is shared counts as often as it is met; a slice's spare places count too). A statement '..UptoSaid' is the law's where the arguments, and the package variables that the reading takes, are together of bulk at most 1048576: NARROWER than '..Said'. Prove '..Said' where nothing that the law and all that it calls make is longer than what came in: it says more and counts as full. Else prove '..UptoSaid'. A law counts once. -/
mutual
def uptoBulk {H : Type} : DataW H → Nat
  | .lit (.string bytes) => bytes.length + 1
  | .lit _ => 1
  | .nil => 1
  | .ptr d => uptoBulk d + 1
  | .slice elems spare => uptoBulkAll elems + uptoBulkAll spare + 1
  | .agg parts => uptoBulkAll parts + 1
  | .iface _ d => uptoBulk d + 1
  | .map entries => uptoBulkEntries entries + 1
  | .held _ => 1
def uptoBulkAll {H : Type} : List (DataW H) → Nat
  | [] => 0
  | d :: r => uptoBulk d + uptoBulkAll r
def uptoBulkEntries {H : Type} : List (Lit × DataW H) → Nat
  | [] => 0
  | x :: r => uptoBulkEntry x + uptoBulkEntries r
def uptoBulkEntry {H : Type} : Lit × DataW H → Nat
  | (.string bytes, d) => bytes.length + uptoBulk d + 1
  | (_, d) => uptoBulk d + 1
 end
def uptoSmall : (H : Type) → List (DataW H) → Bool := fun _ ds => decide (uptoBulkAll ds ≤ 1048576)
def OpenSpec.upto (s : _root_.Go.ChangeSpec) : _root_.Go.OpenSpec := { _root_.Go.OpenSpec.ofChange s with cond := some uptoSmall }

/-- 'hypercubelaw12.ExecAll', WHERE WHAT IT READS IS OF BULK AT MOST 1048576: true; the input reads as it did. -/
def execAllUptoRow : OpenClaim := { program := "ytgmjighohmpafaagreat", sum := "57f6d007846a67e5680adc60de1b7d69197bd000a96be6eda5523f3172bd7910", func := "hypercube/hypercubelaw12.ExecAll", spec := "execAll", inPlace := ["slices.overlaps[hypercube/api.Cell]"], unfollowed := true, recurses := true, apart := false, narrowed := true }
def ExecAllUptoSaid : Prop := execAllUptoRow.holds Tryz.pinned (OpenSpec.upto execAllSpec)

/-- 'hypercubelaw12.ExecGroups', WHERE WHAT IT READS IS OF BULK AT MOST 1048576: true; the input reads as it did. -/
def execGroupsUptoRow : OpenClaim := { program := "ytgmjighohmpafaagreat", sum := "57f6d007846a67e5680adc60de1b7d69197bd000a96be6eda5523f3172bd7910", func := "hypercube/hypercubelaw12.ExecGroups", spec := "execGroups", inPlace := ["slices.overlaps[hypercube/api.Cell]"], unfollowed := true, recurses := true, apart := false, narrowed := true }
def ExecGroupsUptoSaid : Prop := execGroupsUptoRow.holds Tryz.pinned (OpenSpec.upto execGroupsSpec)

/-- 'hypercubelaw12.ExecBounds', WHERE WHAT IT READS IS OF BULK AT MOST 1048576: true; the input reads as it did. -/
def execBoundsUptoRow : OpenClaim := { program := "ytgmjighohmpafaagreat", sum := "57f6d007846a67e5680adc60de1b7d69197bd000a96be6eda5523f3172bd7910", func := "hypercube/hypercubelaw12.ExecBounds", spec := "execBounds", inPlace := ["slices.overlaps[hypercube/api.Cell]"], unfollowed := true, recurses := true, apart := false, narrowed := true }
def ExecBoundsUptoSaid : Prop := execBoundsUptoRow.holds Tryz.pinned (OpenSpec.upto execBoundsSpec)

/-- 'hypercubelaw12.ExecTwice', WHERE WHAT IT READS IS OF BULK AT MOST 1048576: true; the input reads as it did. -/
def execTwiceUptoRow : OpenClaim := { program := "ytgmjighohmpafaagreat", sum := "57f6d007846a67e5680adc60de1b7d69197bd000a96be6eda5523f3172bd7910", func := "hypercube/hypercubelaw12.ExecTwice", spec := "execTwice", inPlace := ["slices.overlaps[hypercube/api.Cell]"], unfollowed := true, recurses := true, apart := false, narrowed := true }
def ExecTwiceUptoSaid : Prop := execTwiceUptoRow.holds Tryz.pinned (OpenSpec.upto execTwiceSpec)

/-- 'hypercubelaw12.ExecOwn', WHERE WHAT IT READS IS OF BULK AT MOST 1048576: true; the input reads as it did. -/
def execOwnUptoRow : OpenClaim := { program := "ytgmjighohmpafaagreat", sum := "57f6d007846a67e5680adc60de1b7d69197bd000a96be6eda5523f3172bd7910", func := "hypercube/hypercubelaw12.ExecOwn", spec := "execOwn", inPlace := ["slices.overlaps[hypercube/api.Cell]"], unfollowed := true, recurses := true, apart := false, narrowed := true }
def ExecOwnUptoSaid : Prop := execOwnUptoRow.holds Tryz.pinned (OpenSpec.upto execOwnSpec)

/-- 'hypercubelaw12.ExecAlike', WHERE WHAT IT READS IS OF BULK AT MOST 1048576: true; the input reads as it did. -/
def execAlikeUptoRow : OpenClaim := { program := "ytgmjighohmpafaagreat", sum := "57f6d007846a67e5680adc60de1b7d69197bd000a96be6eda5523f3172bd7910", func := "hypercube/hypercubelaw12.ExecAlike", spec := "execAlike", inPlace := ["slices.overlaps[hypercube/api.Cell]"], unfollowed := true, recurses := true, apart := false, narrowed := true }
def ExecAlikeUptoSaid : Prop := execAlikeUptoRow.holds Tryz.pinned (OpenSpec.upto execAlikeSpec)

/-- 'hypercubelaw12.ExecGreat', WHERE WHAT IT READS IS OF BULK AT MOST 1048576: true; the input reads as it did. -/
def execGreatUptoRow : OpenClaim := { program := "ytgmjighohmpafaagreat", sum := "57f6d007846a67e5680adc60de1b7d69197bd000a96be6eda5523f3172bd7910", func := "hypercube/hypercubelaw12.ExecGreat", spec := "execGreat", inPlace := ["slices.overlaps[hypercube/api.Cell]"], unfollowed := true, recurses := true, apart := false, narrowed := true }
def ExecGreatUptoSaid : Prop := execGreatUptoRow.holds Tryz.pinned (OpenSpec.upto execGreatSpec)

/-- 'hypercubelaw12.ExecTotal', WHERE WHAT IT READS IS OF BULK AT MOST 1048576: true; the input reads as it did. -/
def execTotalUptoRow : OpenClaim := { program := "ytgmjighohmpafaagreat", sum := "57f6d007846a67e5680adc60de1b7d69197bd000a96be6eda5523f3172bd7910", func := "hypercube/hypercubelaw12.ExecTotal", spec := "execTotal", inPlace := ["slices.overlaps[hypercube/api.Cell]"], unfollowed := true, recurses := true, apart := false, narrowed := true }
def ExecTotalUptoSaid : Prop := execTotalUptoRow.holds Tryz.pinned (OpenSpec.upto execTotalSpec)

end Rows
end Go.Proofs.YtgmjighohmpafaaGreat
