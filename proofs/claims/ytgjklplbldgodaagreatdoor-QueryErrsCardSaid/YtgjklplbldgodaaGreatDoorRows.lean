/-
  NARROWER THAN 'FOR EVERY INPUT', by the rows' own cells (each row's printed sentence says how): QueryAll: laid · QueryAlike: laid · QueryParts: laid · QueryAllBy: laid · QueryOrder: laid · QueryOwn: laid · QueryNarrow: laid · QueryNothing: laid · QueryErrs: laid.
  DERIVED. THE GIVEN ROWS OF THIS SEAT. 9 by the template 'for every input the law returns true; each argument reads behind the call as it read before'; 0 by the template 'total and deterministic' (their statements: YtgjklplbldgodaaGreatDoorTotals.lean).
  GIVEN WITH THE SEED: the statements are not yours to turn. If you find one false, say at which input.
  Laid BY PROGRAM, IN A SANDBOX (cutbox-rows.mjs): the forced cells as the released guide's own fill.sh prints them over the translation fe3b39a440fe3341… (all of the seat's roots in one cut). By AI agents, Wed Nov 11 2026. No macro, syntax, notation, axiom, sorry.
-/
import Derived.Test.YtgjklplbldgodaaGreatDoorChecked
import GoSem.Claim
import GoSem.ClaimJoined
import GoSem.ClaimMapViews
import Derived.JoinedTies
import Derived.KernelRfl
namespace Go.Proofs.YtgjklplbldgodaaGreatDoor
/- THE CELL 'sum', in the pinned program and in every row, IS THE sha256 OF THE DUMP (.gsa) THAT YtgjklplbldgodaaGreatDoorProg.lean LOADS. Nothing in Lean hashes anything: it is a label: what it is worth is what the hold of that sum in a sandbox is worth. -/
noncomputable def Tryz.pinned : Pinned := { name := "ytgjklplbldgodaagreatdoor", sum := "fe3b39a440fe33412bb128d43cff5065f8955ab09b9ecbf47a0aa484788bd0f9", checked := Tryz.checked }
namespace Rows
def none {H : Type} : Left H := { results := [], args := [] }

/- WHAT THE LISTED PACKAGE-LEVEL VARIABLES READ AS WHEN THE CALL BEGINS. Each datum BY PROGRAM (the guide's laid-datum.mjs) off the statement by which the dump's own 'gosem.cut.vars' lays the variable. In a bare row this is a premise. The card (YtgjklplbldgodaaGreatDoorCards.lean) ties it to the program's text. -/
def laid_math_bits_deBruijn32tab {H : Type} : DataW H := .agg [.lit (.int .u8 0), .lit (.int .u8 1), .lit (.int .u8 28), .lit (.int .u8 2), .lit (.int .u8 29), .lit (.int .u8 14), .lit (.int .u8 24), .lit (.int .u8 3), .lit (.int .u8 30), .lit (.int .u8 22), .lit (.int .u8 20), .lit (.int .u8 15), .lit (.int .u8 25), .lit (.int .u8 17), .lit (.int .u8 4), .lit (.int .u8 8), .lit (.int .u8 31), .lit (.int .u8 27), .lit (.int .u8 13), .lit (.int .u8 23), .lit (.int .u8 21), .lit (.int .u8 19), .lit (.int .u8 16), .lit (.int .u8 7), .lit (.int .u8 26), .lit (.int .u8 12), .lit (.int .u8 18), .lit (.int .u8 6), .lit (.int .u8 11), .lit (.int .u8 5), .lit (.int .u8 10), .lit (.int .u8 9)]
def laid_math_bits_deBruijn64tab {H : Type} : DataW H := .agg [.lit (.int .u8 0), .lit (.int .u8 1), .lit (.int .u8 56), .lit (.int .u8 2), .lit (.int .u8 57), .lit (.int .u8 49), .lit (.int .u8 28), .lit (.int .u8 3), .lit (.int .u8 61), .lit (.int .u8 58), .lit (.int .u8 42), .lit (.int .u8 50), .lit (.int .u8 38), .lit (.int .u8 29), .lit (.int .u8 17), .lit (.int .u8 4), .lit (.int .u8 62), .lit (.int .u8 47), .lit (.int .u8 59), .lit (.int .u8 36), .lit (.int .u8 45), .lit (.int .u8 43), .lit (.int .u8 51), .lit (.int .u8 22), .lit (.int .u8 53), .lit (.int .u8 39), .lit (.int .u8 33), .lit (.int .u8 30), .lit (.int .u8 24), .lit (.int .u8 18), .lit (.int .u8 12), .lit (.int .u8 5), .lit (.int .u8 63), .lit (.int .u8 55), .lit (.int .u8 48), .lit (.int .u8 27), .lit (.int .u8 60), .lit (.int .u8 41), .lit (.int .u8 37), .lit (.int .u8 16), .lit (.int .u8 46), .lit (.int .u8 35), .lit (.int .u8 44), .lit (.int .u8 21), .lit (.int .u8 52), .lit (.int .u8 32), .lit (.int .u8 23), .lit (.int .u8 11), .lit (.int .u8 54), .lit (.int .u8 26), .lit (.int .u8 40), .lit (.int .u8 15), .lit (.int .u8 34), .lit (.int .u8 20), .lit (.int .u8 31), .lit (.int .u8 10), .lit (.int .u8 25), .lit (.int .u8 14), .lit (.int .u8 19), .lit (.int .u8 9), .lit (.int .u8 13), .lit (.int .u8 8), .lit (.int .u8 7), .lit (.int .u8 6)]
def laid_internal_strconv_uint64pow10 {H : Type} : DataW H := .agg [.lit (.int .u64 1), .lit (.int .u64 10), .lit (.int .u64 100), .lit (.int .u64 1000), .lit (.int .u64 10000), .lit (.int .u64 100000), .lit (.int .u64 1000000), .lit (.int .u64 10000000), .lit (.int .u64 100000000), .lit (.int .u64 1000000000), .lit (.int .u64 10000000000), .lit (.int .u64 100000000000), .lit (.int .u64 1000000000000), .lit (.int .u64 10000000000000), .lit (.int .u64 100000000000000), .lit (.int .u64 1000000000000000), .lit (.int .u64 10000000000000000), .lit (.int .u64 100000000000000000), .lit (.int .u64 1000000000000000000), .lit (.int .u64 10000000000000000000)]

/-- 'hypercubelaw14.QueryAll': WHATEVER THE INPUT: true; the input reads as it did. -/
def queryAllSpec : ChangeSpec := { name := "queryAll", fn := fun _ => fun
  | [d1, d2, d3, d4, d5] => { results := [.lit (.bool true)], args := [d1, d2, d3, d4, d5] }
  | _ => none }
def queryAllRow : OpenClaim := { program := "ytgjklplbldgodaagreatdoor", sum := "fe3b39a440fe33412bb128d43cff5065f8955ab09b9ecbf47a0aa484788bd0f9", func := "hypercube/hypercubelaw14.QueryAll", spec := "queryAll", inPlace := ["slices.overlaps[hypercube/api.Cell]"], unfollowed := true, recurses := true, named := ["internal/strconv.uint64pow10", "math/bits.deBruijn32tab", "math/bits.deBruijn64tab"], apart := false, laid := [("math/bits.deBruijn32tab", laid_math_bits_deBruijn32tab), ("math/bits.deBruijn64tab", laid_math_bits_deBruijn64tab), ("internal/strconv.uint64pow10", laid_internal_strconv_uint64pow10)] }
def QueryAllSaid : Prop := queryAllRow.holds Tryz.pinned (OpenSpec.ofChange queryAllSpec)

/-- ITS FALSE NEIGHBOUR: 'it returns false'. Refute it at one input. -/
def queryAllWrong : ChangeSpec := { name := "queryAll", fn := fun _ => fun
  | [d1, d2, d3, d4, d5] => { results := [.lit (.bool false)], args := [d1, d2, d3, d4, d5] }
  | _ => none }
def QueryAllWrongFalsely : Prop := queryAllRow.holds Tryz.pinned (OpenSpec.ofChange queryAllWrong)

/-- 'hypercubelaw14.QueryAlike': WHATEVER THE INPUT: true; the input reads as it did. -/
def queryAlikeSpec : ChangeSpec := { name := "queryAlike", fn := fun _ => fun
  | [d1, d2, d3, d4, d5] => { results := [.lit (.bool true)], args := [d1, d2, d3, d4, d5] }
  | _ => none }
def queryAlikeRow : OpenClaim := { program := "ytgjklplbldgodaagreatdoor", sum := "fe3b39a440fe33412bb128d43cff5065f8955ab09b9ecbf47a0aa484788bd0f9", func := "hypercube/hypercubelaw14.QueryAlike", spec := "queryAlike", inPlace := ["slices.overlaps[hypercube/api.Cell]"], unfollowed := true, recurses := true, named := ["internal/strconv.uint64pow10", "math/bits.deBruijn32tab", "math/bits.deBruijn64tab"], apart := false, laid := [("math/bits.deBruijn32tab", laid_math_bits_deBruijn32tab), ("math/bits.deBruijn64tab", laid_math_bits_deBruijn64tab), ("internal/strconv.uint64pow10", laid_internal_strconv_uint64pow10)] }
def QueryAlikeSaid : Prop := queryAlikeRow.holds Tryz.pinned (OpenSpec.ofChange queryAlikeSpec)

/-- ITS FALSE NEIGHBOUR: 'it returns false'. Refute it at one input. -/
def queryAlikeWrong : ChangeSpec := { name := "queryAlike", fn := fun _ => fun
  | [d1, d2, d3, d4, d5] => { results := [.lit (.bool false)], args := [d1, d2, d3, d4, d5] }
  | _ => none }
def QueryAlikeWrongFalsely : Prop := queryAlikeRow.holds Tryz.pinned (OpenSpec.ofChange queryAlikeWrong)

/-- 'hypercubelaw14.QueryParts': WHATEVER THE INPUT: true; the input reads as it did. -/
def queryPartsSpec : ChangeSpec := { name := "queryParts", fn := fun _ => fun
  | [d1, d2, d3] => { results := [.lit (.bool true)], args := [d1, d2, d3] }
  | _ => none }
def queryPartsRow : OpenClaim := { program := "ytgjklplbldgodaagreatdoor", sum := "fe3b39a440fe33412bb128d43cff5065f8955ab09b9ecbf47a0aa484788bd0f9", func := "hypercube/hypercubelaw14.QueryParts", spec := "queryParts", inPlace := ["slices.overlaps[hypercube/api.Cell]"], unfollowed := true, recurses := true, named := ["internal/strconv.uint64pow10", "math/bits.deBruijn32tab", "math/bits.deBruijn64tab"], apart := false, laid := [("math/bits.deBruijn32tab", laid_math_bits_deBruijn32tab), ("math/bits.deBruijn64tab", laid_math_bits_deBruijn64tab), ("internal/strconv.uint64pow10", laid_internal_strconv_uint64pow10)] }
def QueryPartsSaid : Prop := queryPartsRow.holds Tryz.pinned (OpenSpec.ofChange queryPartsSpec)

/-- ITS FALSE NEIGHBOUR: 'it returns false'. Refute it at one input. -/
def queryPartsWrong : ChangeSpec := { name := "queryParts", fn := fun _ => fun
  | [d1, d2, d3] => { results := [.lit (.bool false)], args := [d1, d2, d3] }
  | _ => none }
def QueryPartsWrongFalsely : Prop := queryPartsRow.holds Tryz.pinned (OpenSpec.ofChange queryPartsWrong)

/-- 'hypercubelaw14.QueryAllBy': WHATEVER THE INPUT: true; the input reads as it did. -/
def queryAllBySpec : ChangeSpec := { name := "queryAllBy", fn := fun _ => fun
  | [d1, d2, d3] => { results := [.lit (.bool true)], args := [d1, d2, d3] }
  | _ => none }
def queryAllByRow : OpenClaim := { program := "ytgjklplbldgodaagreatdoor", sum := "fe3b39a440fe33412bb128d43cff5065f8955ab09b9ecbf47a0aa484788bd0f9", func := "hypercube/hypercubelaw14.QueryAllBy", spec := "queryAllBy", inPlace := ["slices.overlaps[hypercube/api.Cell]"], unfollowed := true, recurses := true, named := ["internal/strconv.uint64pow10", "math/bits.deBruijn32tab", "math/bits.deBruijn64tab"], apart := false, laid := [("math/bits.deBruijn32tab", laid_math_bits_deBruijn32tab), ("math/bits.deBruijn64tab", laid_math_bits_deBruijn64tab), ("internal/strconv.uint64pow10", laid_internal_strconv_uint64pow10)] }
def QueryAllBySaid : Prop := queryAllByRow.holds Tryz.pinned (OpenSpec.ofChange queryAllBySpec)

/-- ITS FALSE NEIGHBOUR: 'it returns false'. Refute it at one input. -/
def queryAllByWrong : ChangeSpec := { name := "queryAllBy", fn := fun _ => fun
  | [d1, d2, d3] => { results := [.lit (.bool false)], args := [d1, d2, d3] }
  | _ => none }
def QueryAllByWrongFalsely : Prop := queryAllByRow.holds Tryz.pinned (OpenSpec.ofChange queryAllByWrong)

/-- 'hypercubelaw14.QueryOrder': WHATEVER THE INPUT: true; the input reads as it did. -/
def queryOrderSpec : ChangeSpec := { name := "queryOrder", fn := fun _ => fun
  | [d1, d2, d3, d4] => { results := [.lit (.bool true)], args := [d1, d2, d3, d4] }
  | _ => none }
def queryOrderRow : OpenClaim := { program := "ytgjklplbldgodaagreatdoor", sum := "fe3b39a440fe33412bb128d43cff5065f8955ab09b9ecbf47a0aa484788bd0f9", func := "hypercube/hypercubelaw14.QueryOrder", spec := "queryOrder", inPlace := ["slices.overlaps[hypercube/api.Cell]"], unfollowed := true, recurses := true, named := ["internal/strconv.uint64pow10", "math/bits.deBruijn32tab", "math/bits.deBruijn64tab"], apart := false, laid := [("math/bits.deBruijn32tab", laid_math_bits_deBruijn32tab), ("math/bits.deBruijn64tab", laid_math_bits_deBruijn64tab), ("internal/strconv.uint64pow10", laid_internal_strconv_uint64pow10)] }
def QueryOrderSaid : Prop := queryOrderRow.holds Tryz.pinned (OpenSpec.ofChange queryOrderSpec)

/-- ITS FALSE NEIGHBOUR: 'it returns false'. Refute it at one input. -/
def queryOrderWrong : ChangeSpec := { name := "queryOrder", fn := fun _ => fun
  | [d1, d2, d3, d4] => { results := [.lit (.bool false)], args := [d1, d2, d3, d4] }
  | _ => none }
def QueryOrderWrongFalsely : Prop := queryOrderRow.holds Tryz.pinned (OpenSpec.ofChange queryOrderWrong)

/-- 'hypercubelaw14.QueryOwn': WHATEVER THE INPUT: true; the input reads as it did. -/
def queryOwnSpec : ChangeSpec := { name := "queryOwn", fn := fun _ => fun
  | [d1, d2, d3, d4, d5] => { results := [.lit (.bool true)], args := [d1, d2, d3, d4, d5] }
  | _ => none }
def queryOwnRow : OpenClaim := { program := "ytgjklplbldgodaagreatdoor", sum := "fe3b39a440fe33412bb128d43cff5065f8955ab09b9ecbf47a0aa484788bd0f9", func := "hypercube/hypercubelaw14.QueryOwn", spec := "queryOwn", inPlace := ["slices.overlaps[hypercube/api.Cell]"], unfollowed := true, recurses := true, named := ["internal/strconv.uint64pow10", "math/bits.deBruijn32tab", "math/bits.deBruijn64tab"], apart := false, laid := [("math/bits.deBruijn32tab", laid_math_bits_deBruijn32tab), ("math/bits.deBruijn64tab", laid_math_bits_deBruijn64tab), ("internal/strconv.uint64pow10", laid_internal_strconv_uint64pow10)] }
def QueryOwnSaid : Prop := queryOwnRow.holds Tryz.pinned (OpenSpec.ofChange queryOwnSpec)

/-- ITS FALSE NEIGHBOUR: 'it returns false'. Refute it at one input. -/
def queryOwnWrong : ChangeSpec := { name := "queryOwn", fn := fun _ => fun
  | [d1, d2, d3, d4, d5] => { results := [.lit (.bool false)], args := [d1, d2, d3, d4, d5] }
  | _ => none }
def QueryOwnWrongFalsely : Prop := queryOwnRow.holds Tryz.pinned (OpenSpec.ofChange queryOwnWrong)

/-- 'hypercubelaw14.QueryNarrow': WHATEVER THE INPUT: true; the input reads as it did. -/
def queryNarrowSpec : ChangeSpec := { name := "queryNarrow", fn := fun _ => fun
  | [d1, d2, d3, d4, d5] => { results := [.lit (.bool true)], args := [d1, d2, d3, d4, d5] }
  | _ => none }
def queryNarrowRow : OpenClaim := { program := "ytgjklplbldgodaagreatdoor", sum := "fe3b39a440fe33412bb128d43cff5065f8955ab09b9ecbf47a0aa484788bd0f9", func := "hypercube/hypercubelaw14.QueryNarrow", spec := "queryNarrow", inPlace := ["slices.overlaps[hypercube/api.Cell]"], unfollowed := true, recurses := true, named := ["internal/strconv.uint64pow10", "math/bits.deBruijn32tab", "math/bits.deBruijn64tab"], apart := false, laid := [("math/bits.deBruijn32tab", laid_math_bits_deBruijn32tab), ("math/bits.deBruijn64tab", laid_math_bits_deBruijn64tab), ("internal/strconv.uint64pow10", laid_internal_strconv_uint64pow10)] }
def QueryNarrowSaid : Prop := queryNarrowRow.holds Tryz.pinned (OpenSpec.ofChange queryNarrowSpec)

/-- ITS FALSE NEIGHBOUR: 'it returns false'. Refute it at one input. -/
def queryNarrowWrong : ChangeSpec := { name := "queryNarrow", fn := fun _ => fun
  | [d1, d2, d3, d4, d5] => { results := [.lit (.bool false)], args := [d1, d2, d3, d4, d5] }
  | _ => none }
def QueryNarrowWrongFalsely : Prop := queryNarrowRow.holds Tryz.pinned (OpenSpec.ofChange queryNarrowWrong)

/-- 'hypercubelaw14.QueryNothing': WHATEVER THE INPUT: true; the input reads as it did. -/
def queryNothingSpec : ChangeSpec := { name := "queryNothing", fn := fun _ => fun
  | [d1, d2, d3, d4, d5, d6] => { results := [.lit (.bool true)], args := [d1, d2, d3, d4, d5, d6] }
  | _ => none }
def queryNothingRow : OpenClaim := { program := "ytgjklplbldgodaagreatdoor", sum := "fe3b39a440fe33412bb128d43cff5065f8955ab09b9ecbf47a0aa484788bd0f9", func := "hypercube/hypercubelaw14.QueryNothing", spec := "queryNothing", inPlace := ["slices.overlaps[hypercube/api.Cell]"], unfollowed := true, recurses := true, named := ["internal/strconv.uint64pow10", "math/bits.deBruijn32tab", "math/bits.deBruijn64tab"], apart := false, laid := [("math/bits.deBruijn32tab", laid_math_bits_deBruijn32tab), ("math/bits.deBruijn64tab", laid_math_bits_deBruijn64tab), ("internal/strconv.uint64pow10", laid_internal_strconv_uint64pow10)] }
def QueryNothingSaid : Prop := queryNothingRow.holds Tryz.pinned (OpenSpec.ofChange queryNothingSpec)

/-- ITS FALSE NEIGHBOUR: 'it returns false'. Refute it at one input. -/
def queryNothingWrong : ChangeSpec := { name := "queryNothing", fn := fun _ => fun
  | [d1, d2, d3, d4, d5, d6] => { results := [.lit (.bool false)], args := [d1, d2, d3, d4, d5, d6] }
  | _ => none }
def QueryNothingWrongFalsely : Prop := queryNothingRow.holds Tryz.pinned (OpenSpec.ofChange queryNothingWrong)

/-- 'hypercubelaw14.QueryErrs': WHATEVER THE INPUT: true; the input reads as it did. -/
def queryErrsSpec : ChangeSpec := { name := "queryErrs", fn := fun _ => fun
  | [d1, d2, d3, d4] => { results := [.lit (.bool true)], args := [d1, d2, d3, d4] }
  | _ => none }
def queryErrsRow : OpenClaim := { program := "ytgjklplbldgodaagreatdoor", sum := "fe3b39a440fe33412bb128d43cff5065f8955ab09b9ecbf47a0aa484788bd0f9", func := "hypercube/hypercubelaw14.QueryErrs", spec := "queryErrs", inPlace := ["slices.overlaps[hypercube/api.Cell]"], unfollowed := true, recurses := true, named := ["internal/strconv.uint64pow10", "math/bits.deBruijn32tab", "math/bits.deBruijn64tab"], apart := false, laid := [("math/bits.deBruijn32tab", laid_math_bits_deBruijn32tab), ("math/bits.deBruijn64tab", laid_math_bits_deBruijn64tab), ("internal/strconv.uint64pow10", laid_internal_strconv_uint64pow10)] }
def QueryErrsSaid : Prop := queryErrsRow.holds Tryz.pinned (OpenSpec.ofChange queryErrsSpec)

/-- ITS FALSE NEIGHBOUR: 'it returns false'. Refute it at one input. -/
def queryErrsWrong : ChangeSpec := { name := "queryErrs", fn := fun _ => fun
  | [d1, d2, d3, d4] => { results := [.lit (.bool false)], args := [d1, d2, d3, d4] }
  | _ => none }
def QueryErrsWrongFalsely : Prop := queryErrsRow.holds Tryz.pinned (OpenSpec.ofChange queryErrsWrong)

/- THE SECOND FORM. 'bulk': how many values and letters a reading holds, each counted each time it is reached (what is shared counts as often as it is met; a slice's spare places count too). A statement '..UptoSaid' is the law's where the arguments, and the package variables that the reading takes, are together of bulk at most 1048576: NARROWER than '..Said'. Prove '..Said' where nothing that the law and all that it calls make is longer than what came in: it says more and counts as full. Else prove '..UptoSaid'. A law counts once. -/
mutual
def uptoBulk {H : Type} : DataW H → Nat
  | .lit (.string bytes) => bytes.length + 1
  | .lit _ => 1
  | .nil => 1
  | .ptr d => uptoBulk d + 1
  | .slice elems spare => uptoBulkAll elems + uptoBulkAll spare + 1
  | .agg parts => uptoBulkAll parts + 1
  | .iface _ d => uptoBulk d + 1
  | .map entries => uptoBulkEntries entries + 1
  | .held _ => 1
def uptoBulkAll {H : Type} : List (DataW H) → Nat
  | [] => 0
  | d :: r => uptoBulk d + uptoBulkAll r
def uptoBulkEntries {H : Type} : List (Lit × DataW H) → Nat
  | [] => 0
  | x :: r => uptoBulkEntry x + uptoBulkEntries r
def uptoBulkEntry {H : Type} : Lit × DataW H → Nat
  | (.string bytes, d) => bytes.length + uptoBulk d + 1
  | (_, d) => uptoBulk d + 1
 end
def uptoSmall : (H : Type) → List (DataW H) → Bool := fun _ ds => decide (uptoBulkAll ds ≤ 1048576)
def OpenSpec.upto (s : _root_.Go.ChangeSpec) : _root_.Go.OpenSpec := { _root_.Go.OpenSpec.ofChange s with cond := some uptoSmall }

/-- 'hypercubelaw14.QueryAll', WHERE WHAT IT READS IS OF BULK AT MOST 1048576: true; the input reads as it did. -/
def queryAllUptoRow : OpenClaim := { program := "ytgjklplbldgodaagreatdoor", sum := "fe3b39a440fe33412bb128d43cff5065f8955ab09b9ecbf47a0aa484788bd0f9", func := "hypercube/hypercubelaw14.QueryAll", spec := "queryAll", inPlace := ["slices.overlaps[hypercube/api.Cell]"], unfollowed := true, recurses := true, named := ["internal/strconv.uint64pow10", "math/bits.deBruijn32tab", "math/bits.deBruijn64tab"], apart := false, laid := [("math/bits.deBruijn32tab", laid_math_bits_deBruijn32tab), ("math/bits.deBruijn64tab", laid_math_bits_deBruijn64tab), ("internal/strconv.uint64pow10", laid_internal_strconv_uint64pow10)], narrowed := true }
def QueryAllUptoSaid : Prop := queryAllUptoRow.holds Tryz.pinned (OpenSpec.upto queryAllSpec)

/-- 'hypercubelaw14.QueryAlike', WHERE WHAT IT READS IS OF BULK AT MOST 1048576: true; the input reads as it did. -/
def queryAlikeUptoRow : OpenClaim := { program := "ytgjklplbldgodaagreatdoor", sum := "fe3b39a440fe33412bb128d43cff5065f8955ab09b9ecbf47a0aa484788bd0f9", func := "hypercube/hypercubelaw14.QueryAlike", spec := "queryAlike", inPlace := ["slices.overlaps[hypercube/api.Cell]"], unfollowed := true, recurses := true, named := ["internal/strconv.uint64pow10", "math/bits.deBruijn32tab", "math/bits.deBruijn64tab"], apart := false, laid := [("math/bits.deBruijn32tab", laid_math_bits_deBruijn32tab), ("math/bits.deBruijn64tab", laid_math_bits_deBruijn64tab), ("internal/strconv.uint64pow10", laid_internal_strconv_uint64pow10)], narrowed := true }
def QueryAlikeUptoSaid : Prop := queryAlikeUptoRow.holds Tryz.pinned (OpenSpec.upto queryAlikeSpec)

/-- 'hypercubelaw14.QueryParts', WHERE WHAT IT READS IS OF BULK AT MOST 1048576: true; the input reads as it did. -/
def queryPartsUptoRow : OpenClaim := { program := "ytgjklplbldgodaagreatdoor", sum := "fe3b39a440fe33412bb128d43cff5065f8955ab09b9ecbf47a0aa484788bd0f9", func := "hypercube/hypercubelaw14.QueryParts", spec := "queryParts", inPlace := ["slices.overlaps[hypercube/api.Cell]"], unfollowed := true, recurses := true, named := ["internal/strconv.uint64pow10", "math/bits.deBruijn32tab", "math/bits.deBruijn64tab"], apart := false, laid := [("math/bits.deBruijn32tab", laid_math_bits_deBruijn32tab), ("math/bits.deBruijn64tab", laid_math_bits_deBruijn64tab), ("internal/strconv.uint64pow10", laid_internal_strconv_uint64pow10)], narrowed := true }
def QueryPartsUptoSaid : Prop := queryPartsUptoRow.holds Tryz.pinned (OpenSpec.upto queryPartsSpec)

/-- 'hypercubelaw14.QueryAllBy', WHERE WHAT IT READS IS OF BULK AT MOST 1048576: true; the input reads as it did. -/
def queryAllByUptoRow : OpenClaim := { program := "ytgjklplbldgodaagreatdoor", sum := "fe3b39a440fe33412bb128d43cff5065f8955ab09b9ecbf47a0aa484788bd0f9", func := "hypercube/hypercubelaw14.QueryAllBy", spec := "queryAllBy", inPlace := ["slices.overlaps[hypercube/api.Cell]"], unfollowed := true, recurses := true, named := ["internal/strconv.uint64pow10", "math/bits.deBruijn32tab", "math/bits.deBruijn64tab"], apart := false, laid := [("math/bits.deBruijn32tab", laid_math_bits_deBruijn32tab), ("math/bits.deBruijn64tab", laid_math_bits_deBruijn64tab), ("internal/strconv.uint64pow10", laid_internal_strconv_uint64pow10)], narrowed := true }
def QueryAllByUptoSaid : Prop := queryAllByUptoRow.holds Tryz.pinned (OpenSpec.upto queryAllBySpec)

/-- 'hypercubelaw14.QueryOrder', WHERE WHAT IT READS IS OF BULK AT MOST 1048576: true; the input reads as it did. -/
def queryOrderUptoRow : OpenClaim := { program := "ytgjklplbldgodaagreatdoor", sum := "fe3b39a440fe33412bb128d43cff5065f8955ab09b9ecbf47a0aa484788bd0f9", func := "hypercube/hypercubelaw14.QueryOrder", spec := "queryOrder", inPlace := ["slices.overlaps[hypercube/api.Cell]"], unfollowed := true, recurses := true, named := ["internal/strconv.uint64pow10", "math/bits.deBruijn32tab", "math/bits.deBruijn64tab"], apart := false, laid := [("math/bits.deBruijn32tab", laid_math_bits_deBruijn32tab), ("math/bits.deBruijn64tab", laid_math_bits_deBruijn64tab), ("internal/strconv.uint64pow10", laid_internal_strconv_uint64pow10)], narrowed := true }
def QueryOrderUptoSaid : Prop := queryOrderUptoRow.holds Tryz.pinned (OpenSpec.upto queryOrderSpec)

/-- 'hypercubelaw14.QueryOwn', WHERE WHAT IT READS IS OF BULK AT MOST 1048576: true; the input reads as it did. -/
def queryOwnUptoRow : OpenClaim := { program := "ytgjklplbldgodaagreatdoor", sum := "fe3b39a440fe33412bb128d43cff5065f8955ab09b9ecbf47a0aa484788bd0f9", func := "hypercube/hypercubelaw14.QueryOwn", spec := "queryOwn", inPlace := ["slices.overlaps[hypercube/api.Cell]"], unfollowed := true, recurses := true, named := ["internal/strconv.uint64pow10", "math/bits.deBruijn32tab", "math/bits.deBruijn64tab"], apart := false, laid := [("math/bits.deBruijn32tab", laid_math_bits_deBruijn32tab), ("math/bits.deBruijn64tab", laid_math_bits_deBruijn64tab), ("internal/strconv.uint64pow10", laid_internal_strconv_uint64pow10)], narrowed := true }
def QueryOwnUptoSaid : Prop := queryOwnUptoRow.holds Tryz.pinned (OpenSpec.upto queryOwnSpec)

/-- 'hypercubelaw14.QueryNarrow', WHERE WHAT IT READS IS OF BULK AT MOST 1048576: true; the input reads as it did. -/
def queryNarrowUptoRow : OpenClaim := { program := "ytgjklplbldgodaagreatdoor", sum := "fe3b39a440fe33412bb128d43cff5065f8955ab09b9ecbf47a0aa484788bd0f9", func := "hypercube/hypercubelaw14.QueryNarrow", spec := "queryNarrow", inPlace := ["slices.overlaps[hypercube/api.Cell]"], unfollowed := true, recurses := true, named := ["internal/strconv.uint64pow10", "math/bits.deBruijn32tab", "math/bits.deBruijn64tab"], apart := false, laid := [("math/bits.deBruijn32tab", laid_math_bits_deBruijn32tab), ("math/bits.deBruijn64tab", laid_math_bits_deBruijn64tab), ("internal/strconv.uint64pow10", laid_internal_strconv_uint64pow10)], narrowed := true }
def QueryNarrowUptoSaid : Prop := queryNarrowUptoRow.holds Tryz.pinned (OpenSpec.upto queryNarrowSpec)

/-- 'hypercubelaw14.QueryNothing', WHERE WHAT IT READS IS OF BULK AT MOST 1048576: true; the input reads as it did. -/
def queryNothingUptoRow : OpenClaim := { program := "ytgjklplbldgodaagreatdoor", sum := "fe3b39a440fe33412bb128d43cff5065f8955ab09b9ecbf47a0aa484788bd0f9", func := "hypercube/hypercubelaw14.QueryNothing", spec := "queryNothing", inPlace := ["slices.overlaps[hypercube/api.Cell]"], unfollowed := true, recurses := true, named := ["internal/strconv.uint64pow10", "math/bits.deBruijn32tab", "math/bits.deBruijn64tab"], apart := false, laid := [("math/bits.deBruijn32tab", laid_math_bits_deBruijn32tab), ("math/bits.deBruijn64tab", laid_math_bits_deBruijn64tab), ("internal/strconv.uint64pow10", laid_internal_strconv_uint64pow10)], narrowed := true }
def QueryNothingUptoSaid : Prop := queryNothingUptoRow.holds Tryz.pinned (OpenSpec.upto queryNothingSpec)

/-- 'hypercubelaw14.QueryErrs', WHERE WHAT IT READS IS OF BULK AT MOST 1048576: true; the input reads as it did. -/
def queryErrsUptoRow : OpenClaim := { program := "ytgjklplbldgodaagreatdoor", sum := "fe3b39a440fe33412bb128d43cff5065f8955ab09b9ecbf47a0aa484788bd0f9", func := "hypercube/hypercubelaw14.QueryErrs", spec := "queryErrs", inPlace := ["slices.overlaps[hypercube/api.Cell]"], unfollowed := true, recurses := true, named := ["internal/strconv.uint64pow10", "math/bits.deBruijn32tab", "math/bits.deBruijn64tab"], apart := false, laid := [("math/bits.deBruijn32tab", laid_math_bits_deBruijn32tab), ("math/bits.deBruijn64tab", laid_math_bits_deBruijn64tab), ("internal/strconv.uint64pow10", laid_internal_strconv_uint64pow10)], narrowed := true }
def QueryErrsUptoSaid : Prop := queryErrsUptoRow.holds Tryz.pinned (OpenSpec.upto queryErrsSpec)

end Rows
end Go.Proofs.YtgjklplbldgodaaGreatDoor
