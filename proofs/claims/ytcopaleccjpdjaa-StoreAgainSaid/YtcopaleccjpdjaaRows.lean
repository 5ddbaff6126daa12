/-
  No cell of these rows narrows 'for every input' (looked for: loops, veiled, ifaces, maps, wideKeys, modest, calm, conditions, laid).
  DERIVED. THE GIVEN ROWS OF THIS SEAT. 11 by the template 'for every input the law returns true; each argument reads behind the call as it read before'; 0 by the template 'total and deterministic' (their statements: YtcopaleccjpdjaaTotals.lean).
  GIVEN WITH THE SEED: the statements are not yours to turn. If you find one false, say at which input.
  Laid BY PROGRAM, IN A SANDBOX (cutbox-rows.mjs): the forced cells as the released guide's own fill.sh prints them over the translation 98a595bea7f1e201… (all of the seat's roots in one cut). By AI agents, Wed Nov 11 2026. No macro, syntax, notation, axiom, sorry.
-/
import Derived.Test.YtcopaleccjpdjaaChecked
import GoSem.Claim
import GoSem.ClaimJoined
import GoSem.ClaimMapViews
import Derived.JoinedTies
import Derived.KernelRfl
namespace Go.Proofs.Ytcopaleccjpdjaa
/- THE CELL 'sum', in the pinned program and in every row, IS THE sha256 OF THE DUMP (.gsa) THAT YtcopaleccjpdjaaProg.lean LOADS. Nothing in Lean hashes anything: it is a label: what it is worth is what the hold of that sum in a sandbox is worth. -/
noncomputable def Try.pinned : Pinned := { name := "ytcopaleccjpdjaa", sum := "98a595bea7f1e201d73bd13bd811dfffc89f0f4d512a2734be543a43c902ec8c", checked := Try.checked }
namespace Rows
def none {H : Type} : Left H := { results := [], args := [] }

/-- 'hypercubelaw4.StoreFull': WHATEVER THE INPUT: true; the input reads as it did. -/
def storeFullSpec : ChangeSpec := { name := "storeFull", fn := fun _ => fun
  | [d1, d2] => { results := [.lit (.bool true)], args := [d1, d2] }
  | _ => none }
def storeFullRow : OpenClaim := { program := "ytcopaleccjpdjaa", sum := "98a595bea7f1e201d73bd13bd811dfffc89f0f4d512a2734be543a43c902ec8c", func := "hypercube/hypercubelaw4.StoreFull", spec := "storeFull", unfollowed := true, recurses := true, apart := false }
def StoreFullSaid : Prop := storeFullRow.holds Try.pinned (OpenSpec.ofChange storeFullSpec)

/-- ITS FALSE NEIGHBOUR: 'it returns false'. Refute it at one input. -/
def storeFullWrong : ChangeSpec := { name := "storeFull", fn := fun _ => fun
  | [d1, d2] => { results := [.lit (.bool false)], args := [d1, d2] }
  | _ => none }
def StoreFullWrongFalsely : Prop := storeFullRow.holds Try.pinned (OpenSpec.ofChange storeFullWrong)

/-- 'hypercubelaw4.StoreNames': WHATEVER THE INPUT: true; the input reads as it did. -/
def storeNamesSpec : ChangeSpec := { name := "storeNames", fn := fun _ => fun
  | [d1, d2] => { results := [.lit (.bool true)], args := [d1, d2] }
  | _ => none }
def storeNamesRow : OpenClaim := { program := "ytcopaleccjpdjaa", sum := "98a595bea7f1e201d73bd13bd811dfffc89f0f4d512a2734be543a43c902ec8c", func := "hypercube/hypercubelaw4.StoreNames", spec := "storeNames", unfollowed := true, recurses := true, apart := false }
def StoreNamesSaid : Prop := storeNamesRow.holds Try.pinned (OpenSpec.ofChange storeNamesSpec)

/-- ITS FALSE NEIGHBOUR: 'it returns false'. Refute it at one input. -/
def storeNamesWrong : ChangeSpec := { name := "storeNames", fn := fun _ => fun
  | [d1, d2] => { results := [.lit (.bool false)], args := [d1, d2] }
  | _ => none }
def StoreNamesWrongFalsely : Prop := storeNamesRow.holds Try.pinned (OpenSpec.ofChange storeNamesWrong)

/-- 'hypercubelaw4.StoreOwn': WHATEVER THE INPUT: true; the input reads as it did. -/
def storeOwnSpec : ChangeSpec := { name := "storeOwn", fn := fun _ => fun
  | [d1, d2] => { results := [.lit (.bool true)], args := [d1, d2] }
  | _ => none }
def storeOwnRow : OpenClaim := { program := "ytcopaleccjpdjaa", sum := "98a595bea7f1e201d73bd13bd811dfffc89f0f4d512a2734be543a43c902ec8c", func := "hypercube/hypercubelaw4.StoreOwn", spec := "storeOwn", unfollowed := true, recurses := true, apart := false }
def StoreOwnSaid : Prop := storeOwnRow.holds Try.pinned (OpenSpec.ofChange storeOwnSpec)

/-- ITS FALSE NEIGHBOUR: 'it returns false'. Refute it at one input. -/
def storeOwnWrong : ChangeSpec := { name := "storeOwn", fn := fun _ => fun
  | [d1, d2] => { results := [.lit (.bool false)], args := [d1, d2] }
  | _ => none }
def StoreOwnWrongFalsely : Prop := storeOwnRow.holds Try.pinned (OpenSpec.ofChange storeOwnWrong)

/-- 'hypercubelaw4.StorePlays': WHATEVER THE INPUT: true; the input reads as it did. -/
def storePlaysSpec : ChangeSpec := { name := "storePlays", fn := fun _ => fun
  | [d1, d2, d3, d4] => { results := [.lit (.bool true)], args := [d1, d2, d3, d4] }
  | _ => none }
def storePlaysRow : OpenClaim := { program := "ytcopaleccjpdjaa", sum := "98a595bea7f1e201d73bd13bd811dfffc89f0f4d512a2734be543a43c902ec8c", func := "hypercube/hypercubelaw4.StorePlays", spec := "storePlays", unfollowed := true, recurses := true, apart := false }
def StorePlaysSaid : Prop := storePlaysRow.holds Try.pinned (OpenSpec.ofChange storePlaysSpec)

/-- ITS FALSE NEIGHBOUR: 'it returns false'. Refute it at one input. -/
def storePlaysWrong : ChangeSpec := { name := "storePlays", fn := fun _ => fun
  | [d1, d2, d3, d4] => { results := [.lit (.bool false)], args := [d1, d2, d3, d4] }
  | _ => none }
def StorePlaysWrongFalsely : Prop := storePlaysRow.holds Try.pinned (OpenSpec.ofChange storePlaysWrong)

/-- 'hypercubelaw4.StoreTraces': WHATEVER THE INPUT: true; the input reads as it did. -/
def storeTracesSpec : ChangeSpec := { name := "storeTraces", fn := fun _ => fun
  | [d1, d2] => { results := [.lit (.bool true)], args := [d1, d2] }
  | _ => none }
def storeTracesRow : OpenClaim := { program := "ytcopaleccjpdjaa", sum := "98a595bea7f1e201d73bd13bd811dfffc89f0f4d512a2734be543a43c902ec8c", func := "hypercube/hypercubelaw4.StoreTraces", spec := "storeTraces", unfollowed := true, recurses := true, apart := false }
def StoreTracesSaid : Prop := storeTracesRow.holds Try.pinned (OpenSpec.ofChange storeTracesSpec)

/-- ITS FALSE NEIGHBOUR: 'it returns false'. Refute it at one input. -/
def storeTracesWrong : ChangeSpec := { name := "storeTraces", fn := fun _ => fun
  | [d1, d2] => { results := [.lit (.bool false)], args := [d1, d2] }
  | _ => none }
def StoreTracesWrongFalsely : Prop := storeTracesRow.holds Try.pinned (OpenSpec.ofChange storeTracesWrong)

/-- 'hypercubelaw4.StoreMissing': WHATEVER THE INPUT: true; the input reads as it did. -/
def storeMissingSpec : ChangeSpec := { name := "storeMissing", fn := fun _ => fun
  | [d1, d2] => { results := [.lit (.bool true)], args := [d1, d2] }
  | _ => none }
def storeMissingRow : OpenClaim := { program := "ytcopaleccjpdjaa", sum := "98a595bea7f1e201d73bd13bd811dfffc89f0f4d512a2734be543a43c902ec8c", func := "hypercube/hypercubelaw4.StoreMissing", spec := "storeMissing", unfollowed := true, recurses := true, apart := false }
def StoreMissingSaid : Prop := storeMissingRow.holds Try.pinned (OpenSpec.ofChange storeMissingSpec)

/-- ITS FALSE NEIGHBOUR: 'it returns false'. Refute it at one input. -/
def storeMissingWrong : ChangeSpec := { name := "storeMissing", fn := fun _ => fun
  | [d1, d2] => { results := [.lit (.bool false)], args := [d1, d2] }
  | _ => none }
def StoreMissingWrongFalsely : Prop := storeMissingRow.holds Try.pinned (OpenSpec.ofChange storeMissingWrong)

/-- 'hypercubelaw4.StoreKeeps': WHATEVER THE INPUT: true; the input reads as it did. -/
def storeKeepsSpec : ChangeSpec := { name := "storeKeeps", fn := fun _ => fun
  | [d1, d2, d3, d4] => { results := [.lit (.bool true)], args := [d1, d2, d3, d4] }
  | _ => none }
def storeKeepsRow : OpenClaim := { program := "ytcopaleccjpdjaa", sum := "98a595bea7f1e201d73bd13bd811dfffc89f0f4d512a2734be543a43c902ec8c", func := "hypercube/hypercubelaw4.StoreKeeps", spec := "storeKeeps", unfollowed := true, recurses := true, apart := false }
def StoreKeepsSaid : Prop := storeKeepsRow.holds Try.pinned (OpenSpec.ofChange storeKeepsSpec)

/-- ITS FALSE NEIGHBOUR: 'it returns false'. Refute it at one input. -/
def storeKeepsWrong : ChangeSpec := { name := "storeKeeps", fn := fun _ => fun
  | [d1, d2, d3, d4] => { results := [.lit (.bool false)], args := [d1, d2, d3, d4] }
  | _ => none }
def StoreKeepsWrongFalsely : Prop := storeKeepsRow.holds Try.pinned (OpenSpec.ofChange storeKeepsWrong)

/-- 'hypercubelaw4.StoreSure': WHATEVER THE INPUT: true; the input reads as it did. -/
def storeSureSpec : ChangeSpec := { name := "storeSure", fn := fun _ => fun
  | [d1, d2, d3] => { results := [.lit (.bool true)], args := [d1, d2, d3] }
  | _ => none }
def storeSureRow : OpenClaim := { program := "ytcopaleccjpdjaa", sum := "98a595bea7f1e201d73bd13bd811dfffc89f0f4d512a2734be543a43c902ec8c", func := "hypercube/hypercubelaw4.StoreSure", spec := "storeSure", unfollowed := true, recurses := true, apart := false }
def StoreSureSaid : Prop := storeSureRow.holds Try.pinned (OpenSpec.ofChange storeSureSpec)

/-- ITS FALSE NEIGHBOUR: 'it returns false'. Refute it at one input. -/
def storeSureWrong : ChangeSpec := { name := "storeSure", fn := fun _ => fun
  | [d1, d2, d3] => { results := [.lit (.bool false)], args := [d1, d2, d3] }
  | _ => none }
def StoreSureWrongFalsely : Prop := storeSureRow.holds Try.pinned (OpenSpec.ofChange storeSureWrong)

/-- 'hypercubelaw4.StorePublishes': WHATEVER THE INPUT: true; the input reads as it did. -/
def storePublishesSpec : ChangeSpec := { name := "storePublishes", fn := fun _ => fun
  | [d1, d2, d3, d4] => { results := [.lit (.bool true)], args := [d1, d2, d3, d4] }
  | _ => none }
def storePublishesRow : OpenClaim := { program := "ytcopaleccjpdjaa", sum := "98a595bea7f1e201d73bd13bd811dfffc89f0f4d512a2734be543a43c902ec8c", func := "hypercube/hypercubelaw4.StorePublishes", spec := "storePublishes", unfollowed := true, recurses := true, apart := false }
def StorePublishesSaid : Prop := storePublishesRow.holds Try.pinned (OpenSpec.ofChange storePublishesSpec)

/-- ITS FALSE NEIGHBOUR: 'it returns false'. Refute it at one input. -/
def storePublishesWrong : ChangeSpec := { name := "storePublishes", fn := fun _ => fun
  | [d1, d2, d3, d4] => { results := [.lit (.bool false)], args := [d1, d2, d3, d4] }
  | _ => none }
def StorePublishesWrongFalsely : Prop := storePublishesRow.holds Try.pinned (OpenSpec.ofChange storePublishesWrong)

/-- 'hypercubelaw4.StoreCrashes': WHATEVER THE INPUT: true; the input reads as it did. -/
def storeCrashesSpec : ChangeSpec := { name := "storeCrashes", fn := fun _ => fun
  | [d1, d2, d3, d4, d5] => { results := [.lit (.bool true)], args := [d1, d2, d3, d4, d5] }
  | _ => none }
def storeCrashesRow : OpenClaim := { program := "ytcopaleccjpdjaa", sum := "98a595bea7f1e201d73bd13bd811dfffc89f0f4d512a2734be543a43c902ec8c", func := "hypercube/hypercubelaw4.StoreCrashes", spec := "storeCrashes", unfollowed := true, recurses := true, apart := false }
def StoreCrashesSaid : Prop := storeCrashesRow.holds Try.pinned (OpenSpec.ofChange storeCrashesSpec)

/-- ITS FALSE NEIGHBOUR: 'it returns false'. Refute it at one input. -/
def storeCrashesWrong : ChangeSpec := { name := "storeCrashes", fn := fun _ => fun
  | [d1, d2, d3, d4, d5] => { results := [.lit (.bool false)], args := [d1, d2, d3, d4, d5] }
  | _ => none }
def StoreCrashesWrongFalsely : Prop := storeCrashesRow.holds Try.pinned (OpenSpec.ofChange storeCrashesWrong)

/-- 'hypercubelaw4.StoreAgain': WHATEVER THE INPUT: true; the input reads as it did. -/
def storeAgainSpec : ChangeSpec := { name := "storeAgain", fn := fun _ => fun
  | [d1, d2, d3, d4] => { results := [.lit (.bool true)], args := [d1, d2, d3, d4] }
  | _ => none }
def storeAgainRow : OpenClaim := { program := "ytcopaleccjpdjaa", sum := "98a595bea7f1e201d73bd13bd811dfffc89f0f4d512a2734be543a43c902ec8c", func := "hypercube/hypercubelaw4.StoreAgain", spec := "storeAgain", unfollowed := true, recurses := true, apart := false }
def StoreAgainSaid : Prop := storeAgainRow.holds Try.pinned (OpenSpec.ofChange storeAgainSpec)

/-- ITS FALSE NEIGHBOUR: 'it returns false'. Refute it at one input. -/
def storeAgainWrong : ChangeSpec := { name := "storeAgain", fn := fun _ => fun
  | [d1, d2, d3, d4] => { results := [.lit (.bool false)], args := [d1, d2, d3, d4] }
  | _ => none }
def StoreAgainWrongFalsely : Prop := storeAgainRow.holds Try.pinned (OpenSpec.ofChange storeAgainWrong)

/- THE SECOND FORM. 'bulk': how many values and letters a reading holds, each counted each time it is reached (what is shared counts as often as it is met; a slice's spare places count too). A statement '..UptoSaid' is the law's where the arguments, and the package variables that the reading takes, are together of bulk at most 1048576: NARROWER than '..Said'. Prove '..Said' where nothing that the law and all that it calls make is longer than what came in: it says more and counts as full. Else prove '..UptoSaid'. A law counts once. -/
mutual
def uptoBulk {H : Type} : DataW H → Nat
  | .lit (.string bytes) => bytes.length + 1
  | .lit _ => 1
  | .nil => 1
  | .ptr d => uptoBulk d + 1
  | .slice elems spare => uptoBulkAll elems + uptoBulkAll spare + 1
  | .agg parts => uptoBulkAll parts + 1
  | .iface _ d => uptoBulk d + 1
  | .map entries => uptoBulkEntries entries + 1
  | .held _ => 1
def uptoBulkAll {H : Type} : List (DataW H) → Nat
  | [] => 0
  | d :: r => uptoBulk d + uptoBulkAll r
def uptoBulkEntries {H : Type} : List (Lit × DataW H) → Nat
  | [] => 0
  | x :: r => uptoBulkEntry x + uptoBulkEntries r
def uptoBulkEntry {H : Type} : Lit × DataW H → Nat
  | (.string bytes, d) => bytes.length + uptoBulk d + 1
  | (_, d) => uptoBulk d + 1
 end
def uptoSmall : (H : Type) → List (DataW H) → Bool := fun _ ds => decide (uptoBulkAll ds ≤ 1048576)
def OpenSpec.upto (s : _root_.Go.ChangeSpec) : _root_.Go.OpenSpec := { _root_.Go.OpenSpec.ofChange s with cond := some uptoSmall }

/-- 'hypercubelaw4.StoreFull', WHERE WHAT IT READS IS OF BULK AT MOST 1048576: true; the input reads as it did. -/
def storeFullUptoRow : OpenClaim := { program := "ytcopaleccjpdjaa", sum := "98a595bea7f1e201d73bd13bd811dfffc89f0f4d512a2734be543a43c902ec8c", func := "hypercube/hypercubelaw4.StoreFull", spec := "storeFull", unfollowed := true, recurses := true, apart := false, narrowed := true }
def StoreFullUptoSaid : Prop := storeFullUptoRow.holds Try.pinned (OpenSpec.upto storeFullSpec)

/-- 'hypercubelaw4.StoreNames', WHERE WHAT IT READS IS OF BULK AT MOST 1048576: true; the input reads as it did. -/
def storeNamesUptoRow : OpenClaim := { program := "ytcopaleccjpdjaa", sum := "98a595bea7f1e201d73bd13bd811dfffc89f0f4d512a2734be543a43c902ec8c", func := "hypercube/hypercubelaw4.StoreNames", spec := "storeNames", unfollowed := true, recurses := true, apart := false, narrowed := true }
def StoreNamesUptoSaid : Prop := storeNamesUptoRow.holds Try.pinned (OpenSpec.upto storeNamesSpec)

/-- 'hypercubelaw4.StoreOwn', WHERE WHAT IT READS IS OF BULK AT MOST 1048576: true; the input reads as it did. -/
def storeOwnUptoRow : OpenClaim := { program := "ytcopaleccjpdjaa", sum := "98a595bea7f1e201d73bd13bd811dfffc89f0f4d512a2734be543a43c902ec8c", func := "hypercube/hypercubelaw4.StoreOwn", spec := "storeOwn", unfollowed := true, recurses := true, apart := false, narrowed := true }
def StoreOwnUptoSaid : Prop := storeOwnUptoRow.holds Try.pinned (OpenSpec.upto storeOwnSpec)

/-- 'hypercubelaw4.StorePlays', WHERE WHAT IT READS IS OF BULK AT MOST 1048576: true; the input reads as it did. -/
def storePlaysUptoRow : OpenClaim := { program := "ytcopaleccjpdjaa", sum := "98a595bea7f1e201d73bd13bd811dfffc89f0f4d512a2734be543a43c902ec8c", func := "hypercube/hypercubelaw4.StorePlays", spec := "storePlays", unfollowed := true, recurses := true, apart := false, narrowed := true }
def StorePlaysUptoSaid : Prop := storePlaysUptoRow.holds Try.pinned (OpenSpec.upto storePlaysSpec)

/-- 'hypercubelaw4.StoreTraces', WHERE WHAT IT READS IS OF BULK AT MOST 1048576: true; the input reads as it did. -/
def storeTracesUptoRow : OpenClaim := { program := "ytcopaleccjpdjaa", sum := "98a595bea7f1e201d73bd13bd811dfffc89f0f4d512a2734be543a43c902ec8c", func := "hypercube/hypercubelaw4.StoreTraces", spec := "storeTraces", unfollowed := true, recurses := true, apart := false, narrowed := true }
def StoreTracesUptoSaid : Prop := storeTracesUptoRow.holds Try.pinned (OpenSpec.upto storeTracesSpec)

/-- 'hypercubelaw4.StoreMissing', WHERE WHAT IT READS IS OF BULK AT MOST 1048576: true; the input reads as it did. -/
def storeMissingUptoRow : OpenClaim := { program := "ytcopaleccjpdjaa", sum := "98a595bea7f1e201d73bd13bd811dfffc89f0f4d512a2734be543a43c902ec8c", func := "hypercube/hypercubelaw4.StoreMissing", spec := "storeMissing", unfollowed := true, recurses := true, apart := false, narrowed := true }
def StoreMissingUptoSaid : Prop := storeMissingUptoRow.holds Try.pinned (OpenSpec.upto storeMissingSpec)

/-- 'hypercubelaw4.StoreKeeps', WHERE WHAT IT READS IS OF BULK AT MOST 1048576: true; the input reads as it did. -/
def storeKeepsUptoRow : OpenClaim := { program := "ytcopaleccjpdjaa", sum := "98a595bea7f1e201d73bd13bd811dfffc89f0f4d512a2734be543a43c902ec8c", func := "hypercube/hypercubelaw4.StoreKeeps", spec := "storeKeeps", unfollowed := true, recurses := true, apart := false, narrowed := true }
def StoreKeepsUptoSaid : Prop := storeKeepsUptoRow.holds Try.pinned (OpenSpec.upto storeKeepsSpec)

/-- 'hypercubelaw4.StoreSure', WHERE WHAT IT READS IS OF BULK AT MOST 1048576: true; the input reads as it did. -/
def storeSureUptoRow : OpenClaim := { program := "ytcopaleccjpdjaa", sum := "98a595bea7f1e201d73bd13bd811dfffc89f0f4d512a2734be543a43c902ec8c", func := "hypercube/hypercubelaw4.StoreSure", spec := "storeSure", unfollowed := true, recurses := true, apart := false, narrowed := true }
def StoreSureUptoSaid : Prop := storeSureUptoRow.holds Try.pinned (OpenSpec.upto storeSureSpec)

/-- 'hypercubelaw4.StorePublishes', WHERE WHAT IT READS IS OF BULK AT MOST 1048576: true; the input reads as it did. -/
def storePublishesUptoRow : OpenClaim := { program := "ytcopaleccjpdjaa", sum := "98a595bea7f1e201d73bd13bd811dfffc89f0f4d512a2734be543a43c902ec8c", func := "hypercube/hypercubelaw4.StorePublishes", spec := "storePublishes", unfollowed := true, recurses := true, apart := false, narrowed := true }
def StorePublishesUptoSaid : Prop := storePublishesUptoRow.holds Try.pinned (OpenSpec.upto storePublishesSpec)

/-- 'hypercubelaw4.StoreCrashes', WHERE WHAT IT READS IS OF BULK AT MOST 1048576: true; the input reads as it did. -/
def storeCrashesUptoRow : OpenClaim := { program := "ytcopaleccjpdjaa", sum := "98a595bea7f1e201d73bd13bd811dfffc89f0f4d512a2734be543a43c902ec8c", func := "hypercube/hypercubelaw4.StoreCrashes", spec := "storeCrashes", unfollowed := true, recurses := true, apart := false, narrowed := true }
def StoreCrashesUptoSaid : Prop := storeCrashesUptoRow.holds Try.pinned (OpenSpec.upto storeCrashesSpec)

/-- 'hypercubelaw4.StoreAgain', WHERE WHAT IT READS IS OF BULK AT MOST 1048576: true; the input reads as it did. -/
def storeAgainUptoRow : OpenClaim := { program := "ytcopaleccjpdjaa", sum := "98a595bea7f1e201d73bd13bd811dfffc89f0f4d512a2734be543a43c902ec8c", func := "hypercube/hypercubelaw4.StoreAgain", spec := "storeAgain", unfollowed := true, recurses := true, apart := false, narrowed := true }
def StoreAgainUptoSaid : Prop := storeAgainUptoRow.holds Try.pinned (OpenSpec.upto storeAgainSpec)

end Rows
end Go.Proofs.Ytcopaleccjpdjaa
