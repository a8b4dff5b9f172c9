/-
  NARROWER THAN 'FOR EVERY INPUT', by the rows' own cells (each row's printed sentence says how): AlphaLabels: loops, laid · AlphaHolds: loops, laid · AlphaKeeps: loops, laid · AlphaLikes: loops, laid · AlphaAll: loops, laid · AlphaRight: loops, laid.
  DERIVED. THE GIVEN ROWS OF THIS SEAT. 6 by the template 'for every input the law returns true; each argument reads behind the call as it read before'; 0 by the template 'total and deterministic' (their statements: YteimloiaipiadaaDoorTotals.lean).
  GIVEN WITH THE SEED: the statements are not yours to turn. If you find one false, say at which input.
  Laid BY PROGRAM, IN A SANDBOX (cutbox-rows.mjs): the forced cells as the released guide's own fill.sh prints them over the translation 3509e16dad794492… (all of the seat's roots in one cut). By AI agents, Wed Nov 11 2026. No macro, syntax, notation, axiom, sorry.
-/
import Derived.Test.YteimloiaipiadaaDoorChecked
import GoSem.Claim
import GoSem.ClaimJoined
import GoSem.ClaimMapViews
import Derived.JoinedTies
import Derived.KernelRfl
namespace Go.Proofs.YteimloiaipiadaaDoor
/- THE CELL 'sum', in the pinned program and in every row, IS THE sha256 OF THE DUMP (.gsa) THAT YteimloiaipiadaaDoorProg.lean LOADS. Nothing in Lean hashes anything: it is a label: what it is worth is what the hold of that sum in a sandbox is worth. -/
noncomputable def Tryd.pinned : Pinned := { name := "yteimloiaipiadaadoor", sum := "3509e16dad79449286e9963308810b251f5740df802e9abb81af72b3a3a9fd44", checked := Tryd.checked }
namespace Rows
def none {H : Type} : Left H := { results := [], args := [] }

/- WHAT THE LISTED PACKAGE-LEVEL VARIABLES READ AS WHEN THE CALL BEGINS. Each datum BY PROGRAM (the guide's laid-datum.mjs) off the statement by which the dump's own 'gosem.cut.vars' lays the variable. In a bare row this is a premise. The card (YteimloiaipiadaaDoorCards.lean) ties it to the program's text. -/
def laid_math_bits_deBruijn32tab {H : Type} : DataW H := .agg [.lit (.int .u8 0), .lit (.int .u8 1), .lit (.int .u8 28), .lit (.int .u8 2), .lit (.int .u8 29), .lit (.int .u8 14), .lit (.int .u8 24), .lit (.int .u8 3), .lit (.int .u8 30), .lit (.int .u8 22), .lit (.int .u8 20), .lit (.int .u8 15), .lit (.int .u8 25), .lit (.int .u8 17), .lit (.int .u8 4), .lit (.int .u8 8), .lit (.int .u8 31), .lit (.int .u8 27), .lit (.int .u8 13), .lit (.int .u8 23), .lit (.int .u8 21), .lit (.int .u8 19), .lit (.int .u8 16), .lit (.int .u8 7), .lit (.int .u8 26), .lit (.int .u8 12), .lit (.int .u8 18), .lit (.int .u8 6), .lit (.int .u8 11), .lit (.int .u8 5), .lit (.int .u8 10), .lit (.int .u8 9)]
def laid_math_bits_deBruijn64tab {H : Type} : DataW H := .agg [.lit (.int .u8 0), .lit (.int .u8 1), .lit (.int .u8 56), .lit (.int .u8 2), .lit (.int .u8 57), .lit (.int .u8 49), .lit (.int .u8 28), .lit (.int .u8 3), .lit (.int .u8 61), .lit (.int .u8 58), .lit (.int .u8 42), .lit (.int .u8 50), .lit (.int .u8 38), .lit (.int .u8 29), .lit (.int .u8 17), .lit (.int .u8 4), .lit (.int .u8 62), .lit (.int .u8 47), .lit (.int .u8 59), .lit (.int .u8 36), .lit (.int .u8 45), .lit (.int .u8 43), .lit (.int .u8 51), .lit (.int .u8 22), .lit (.int .u8 53), .lit (.int .u8 39), .lit (.int .u8 33), .lit (.int .u8 30), .lit (.int .u8 24), .lit (.int .u8 18), .lit (.int .u8 12), .lit (.int .u8 5), .lit (.int .u8 63), .lit (.int .u8 55), .lit (.int .u8 48), .lit (.int .u8 27), .lit (.int .u8 60), .lit (.int .u8 41), .lit (.int .u8 37), .lit (.int .u8 16), .lit (.int .u8 46), .lit (.int .u8 35), .lit (.int .u8 44), .lit (.int .u8 21), .lit (.int .u8 52), .lit (.int .u8 32), .lit (.int .u8 23), .lit (.int .u8 11), .lit (.int .u8 54), .lit (.int .u8 26), .lit (.int .u8 40), .lit (.int .u8 15), .lit (.int .u8 34), .lit (.int .u8 20), .lit (.int .u8 31), .lit (.int .u8 10), .lit (.int .u8 25), .lit (.int .u8 14), .lit (.int .u8 19), .lit (.int .u8 9), .lit (.int .u8 13), .lit (.int .u8 8), .lit (.int .u8 7), .lit (.int .u8 6)]
def laid_internal_strconv_uint64pow10 {H : Type} : DataW H := .agg [.lit (.int .u64 1), .lit (.int .u64 10), .lit (.int .u64 100), .lit (.int .u64 1000), .lit (.int .u64 10000), .lit (.int .u64 100000), .lit (.int .u64 1000000), .lit (.int .u64 10000000), .lit (.int .u64 100000000), .lit (.int .u64 1000000000), .lit (.int .u64 10000000000), .lit (.int .u64 100000000000), .lit (.int .u64 1000000000000), .lit (.int .u64 10000000000000), .lit (.int .u64 100000000000000), .lit (.int .u64 1000000000000000), .lit (.int .u64 10000000000000000), .lit (.int .u64 100000000000000000), .lit (.int .u64 1000000000000000000), .lit (.int .u64 10000000000000000000)]

/-- 'oriellaw19.AlphaLabels': WHATEVER THE INPUT: true; the input reads as it did. -/
def alphaLabelsSpec : ChangeSpec := { name := "alphaLabels", fn := fun _ => fun
  | [d] => { results := [.lit (.bool true)], args := [d] }
  | _ => none }
def alphaLabelsRow : OpenClaim := { program := "yteimloiaipiadaadoor", sum := "3509e16dad79449286e9963308810b251f5740df802e9abb81af72b3a3a9fd44", func := "oriel/oriellaw19.AlphaLabels", spec := "alphaLabels", unfollowed := true, recurses := true, named := ["internal/strconv.uint64pow10", "math/bits.deBruijn32tab", "math/bits.deBruijn64tab"], loops := true, apart := false, laid := [("math/bits.deBruijn32tab", laid_math_bits_deBruijn32tab), ("math/bits.deBruijn64tab", laid_math_bits_deBruijn64tab), ("internal/strconv.uint64pow10", laid_internal_strconv_uint64pow10)] }
def AlphaLabelsSaid : Prop := alphaLabelsRow.holds Tryd.pinned (OpenSpec.ofChange alphaLabelsSpec)

/-- ITS FALSE NEIGHBOUR: 'it returns false'. Refute it at one input. -/
def alphaLabelsWrong : ChangeSpec := { name := "alphaLabels", fn := fun _ => fun
  | [d] => { results := [.lit (.bool false)], args := [d] }
  | _ => none }
def AlphaLabelsWrongFalsely : Prop := alphaLabelsRow.holds Tryd.pinned (OpenSpec.ofChange alphaLabelsWrong)

/-- 'oriellaw19.AlphaHolds': WHATEVER THE INPUT: true; the input reads as it did. -/
def alphaHoldsSpec : ChangeSpec := { name := "alphaHolds", fn := fun _ => fun
  | [d1, d2] => { results := [.lit (.bool true)], args := [d1, d2] }
  | _ => none }
def alphaHoldsRow : OpenClaim := { program := "yteimloiaipiadaadoor", sum := "3509e16dad79449286e9963308810b251f5740df802e9abb81af72b3a3a9fd44", func := "oriel/oriellaw19.AlphaHolds", spec := "alphaHolds", unfollowed := true, recurses := true, named := ["internal/strconv.uint64pow10", "math/bits.deBruijn32tab", "math/bits.deBruijn64tab"], loops := true, apart := false, laid := [("math/bits.deBruijn32tab", laid_math_bits_deBruijn32tab), ("math/bits.deBruijn64tab", laid_math_bits_deBruijn64tab), ("internal/strconv.uint64pow10", laid_internal_strconv_uint64pow10)] }
def AlphaHoldsSaid : Prop := alphaHoldsRow.holds Tryd.pinned (OpenSpec.ofChange alphaHoldsSpec)

/-- ITS FALSE NEIGHBOUR: 'it returns false'. Refute it at one input. -/
def alphaHoldsWrong : ChangeSpec := { name := "alphaHolds", fn := fun _ => fun
  | [d1, d2] => { results := [.lit (.bool false)], args := [d1, d2] }
  | _ => none }
def AlphaHoldsWrongFalsely : Prop := alphaHoldsRow.holds Tryd.pinned (OpenSpec.ofChange alphaHoldsWrong)

/-- 'oriellaw19.AlphaKeeps': WHATEVER THE INPUT: true; the input reads as it did. -/
def alphaKeepsSpec : ChangeSpec := { name := "alphaKeeps", fn := fun _ => fun
  | [d] => { results := [.lit (.bool true)], args := [d] }
  | _ => none }
def alphaKeepsRow : OpenClaim := { program := "yteimloiaipiadaadoor", sum := "3509e16dad79449286e9963308810b251f5740df802e9abb81af72b3a3a9fd44", func := "oriel/oriellaw19.AlphaKeeps", spec := "alphaKeeps", unfollowed := true, recurses := true, named := ["internal/strconv.uint64pow10", "math/bits.deBruijn32tab", "math/bits.deBruijn64tab"], loops := true, apart := false, laid := [("math/bits.deBruijn32tab", laid_math_bits_deBruijn32tab), ("math/bits.deBruijn64tab", laid_math_bits_deBruijn64tab), ("internal/strconv.uint64pow10", laid_internal_strconv_uint64pow10)] }
def AlphaKeepsSaid : Prop := alphaKeepsRow.holds Tryd.pinned (OpenSpec.ofChange alphaKeepsSpec)

/-- ITS FALSE NEIGHBOUR: 'it returns false'. Refute it at one input. -/
def alphaKeepsWrong : ChangeSpec := { name := "alphaKeeps", fn := fun _ => fun
  | [d] => { results := [.lit (.bool false)], args := [d] }
  | _ => none }
def AlphaKeepsWrongFalsely : Prop := alphaKeepsRow.holds Tryd.pinned (OpenSpec.ofChange alphaKeepsWrong)

/-- 'oriellaw19.AlphaLikes': WHATEVER THE INPUT: true; the input reads as it did. -/
def alphaLikesSpec : ChangeSpec := { name := "alphaLikes", fn := fun _ => fun
  | [d1, d2, d3] => { results := [.lit (.bool true)], args := [d1, d2, d3] }
  | _ => none }
def alphaLikesRow : OpenClaim := { program := "yteimloiaipiadaadoor", sum := "3509e16dad79449286e9963308810b251f5740df802e9abb81af72b3a3a9fd44", func := "oriel/oriellaw19.AlphaLikes", spec := "alphaLikes", unfollowed := true, recurses := true, named := ["internal/strconv.uint64pow10", "math/bits.deBruijn32tab", "math/bits.deBruijn64tab"], loops := true, apart := false, laid := [("math/bits.deBruijn32tab", laid_math_bits_deBruijn32tab), ("math/bits.deBruijn64tab", laid_math_bits_deBruijn64tab), ("internal/strconv.uint64pow10", laid_internal_strconv_uint64pow10)] }
def AlphaLikesSaid : Prop := alphaLikesRow.holds Tryd.pinned (OpenSpec.ofChange alphaLikesSpec)

/-- ITS FALSE NEIGHBOUR: 'it returns false'. Refute it at one input. -/
def alphaLikesWrong : ChangeSpec := { name := "alphaLikes", fn := fun _ => fun
  | [d1, d2, d3] => { results := [.lit (.bool false)], args := [d1, d2, d3] }
  | _ => none }
def AlphaLikesWrongFalsely : Prop := alphaLikesRow.holds Tryd.pinned (OpenSpec.ofChange alphaLikesWrong)

/-- 'oriellaw19.AlphaAll': WHATEVER THE INPUT: true; the input reads as it did. -/
def alphaAllSpec : ChangeSpec := { name := "alphaAll", fn := fun _ => fun
  | [d1, d2] => { results := [.lit (.bool true)], args := [d1, d2] }
  | _ => none }
def alphaAllRow : OpenClaim := { program := "yteimloiaipiadaadoor", sum := "3509e16dad79449286e9963308810b251f5740df802e9abb81af72b3a3a9fd44", func := "oriel/oriellaw19.AlphaAll", spec := "alphaAll", unfollowed := true, recurses := true, named := ["internal/strconv.uint64pow10", "math/bits.deBruijn32tab", "math/bits.deBruijn64tab"], loops := true, apart := false, laid := [("math/bits.deBruijn32tab", laid_math_bits_deBruijn32tab), ("math/bits.deBruijn64tab", laid_math_bits_deBruijn64tab), ("internal/strconv.uint64pow10", laid_internal_strconv_uint64pow10)] }
def AlphaAllSaid : Prop := alphaAllRow.holds Tryd.pinned (OpenSpec.ofChange alphaAllSpec)

/-- ITS FALSE NEIGHBOUR: 'it returns false'. Refute it at one input. -/
def alphaAllWrong : ChangeSpec := { name := "alphaAll", fn := fun _ => fun
  | [d1, d2] => { results := [.lit (.bool false)], args := [d1, d2] }
  | _ => none }
def AlphaAllWrongFalsely : Prop := alphaAllRow.holds Tryd.pinned (OpenSpec.ofChange alphaAllWrong)

/-- 'oriellaw19.AlphaRight': WHATEVER THE INPUT: true; the input reads as it did. -/
def alphaRightSpec : ChangeSpec := { name := "alphaRight", fn := fun _ => fun
  | [d] => { results := [.lit (.bool true)], args := [d] }
  | _ => none }
def alphaRightRow : OpenClaim := { program := "yteimloiaipiadaadoor", sum := "3509e16dad79449286e9963308810b251f5740df802e9abb81af72b3a3a9fd44", func := "oriel/oriellaw19.AlphaRight", spec := "alphaRight", unfollowed := true, recurses := true, named := ["internal/strconv.uint64pow10", "math/bits.deBruijn32tab", "math/bits.deBruijn64tab"], loops := true, apart := false, laid := [("math/bits.deBruijn32tab", laid_math_bits_deBruijn32tab), ("math/bits.deBruijn64tab", laid_math_bits_deBruijn64tab), ("internal/strconv.uint64pow10", laid_internal_strconv_uint64pow10)] }
def AlphaRightSaid : Prop := alphaRightRow.holds Tryd.pinned (OpenSpec.ofChange alphaRightSpec)

/-- ITS FALSE NEIGHBOUR: 'it returns false'. Refute it at one input. -/
def alphaRightWrong : ChangeSpec := { name := "alphaRight", fn := fun _ => fun
  | [d] => { results := [.lit (.bool false)], args := [d] }
  | _ => none }
def AlphaRightWrongFalsely : Prop := alphaRightRow.holds Tryd.pinned (OpenSpec.ofChange alphaRightWrong)

/- THE SECOND FORM. 'bulk': how many values and letters a reading holds, each counted each time it is reached (what is shared counts as often as it is met; a slice's spare places count too). A statement '..UptoSaid' is the law's where the arguments, and the package variables that the reading takes, are together of bulk at most 1048576: NARROWER than '..Said'. Prove '..Said' where nothing that the law and all that it calls make is longer than what came in: it says more and counts as full. Else prove '..UptoSaid'. A law counts once. -/
mutual
def uptoBulk {H : Type} : DataW H → Nat
  | .lit (.string bytes) => bytes.length + 1
  | .lit _ => 1
  | .nil => 1
  | .ptr d => uptoBulk d + 1
  | .slice elems spare => uptoBulkAll elems + uptoBulkAll spare + 1
  | .agg parts => uptoBulkAll parts + 1
  | .iface _ d => uptoBulk d + 1
  | .map entries => uptoBulkEntries entries + 1
  | .held _ => 1
def uptoBulkAll {H : Type} : List (DataW H) → Nat
  | [] => 0
  | d :: r => uptoBulk d + uptoBulkAll r
def uptoBulkEntries {H : Type} : List (Lit × DataW H) → Nat
  | [] => 0
  | x :: r => uptoBulkEntry x + uptoBulkEntries r
def uptoBulkEntry {H : Type} : Lit × DataW H → Nat
  | (.string bytes, d) => bytes.length + uptoBulk d + 1
  | (_, d) => uptoBulk d + 1
 end
def uptoSmall : (H : Type) → List (DataW H) → Bool := fun _ ds => decide (uptoBulkAll ds ≤ 1048576)
def OpenSpec.upto (s : _root_.Go.ChangeSpec) : _root_.Go.OpenSpec := { _root_.Go.OpenSpec.ofChange s with cond := some uptoSmall }

/-- 'oriellaw19.AlphaLabels', WHERE WHAT IT READS IS OF BULK AT MOST 1048576: true; the input reads as it did. -/
def alphaLabelsUptoRow : OpenClaim := { program := "yteimloiaipiadaadoor", sum := "3509e16dad79449286e9963308810b251f5740df802e9abb81af72b3a3a9fd44", func := "oriel/oriellaw19.AlphaLabels", spec := "alphaLabels", unfollowed := true, recurses := true, named := ["internal/strconv.uint64pow10", "math/bits.deBruijn32tab", "math/bits.deBruijn64tab"], loops := true, apart := false, laid := [("math/bits.deBruijn32tab", laid_math_bits_deBruijn32tab), ("math/bits.deBruijn64tab", laid_math_bits_deBruijn64tab), ("internal/strconv.uint64pow10", laid_internal_strconv_uint64pow10)], narrowed := true }
def AlphaLabelsUptoSaid : Prop := alphaLabelsUptoRow.holds Tryd.pinned (OpenSpec.upto alphaLabelsSpec)

/-- 'oriellaw19.AlphaHolds', WHERE WHAT IT READS IS OF BULK AT MOST 1048576: true; the input reads as it did. -/
def alphaHoldsUptoRow : OpenClaim := { program := "yteimloiaipiadaadoor", sum := "3509e16dad79449286e9963308810b251f5740df802e9abb81af72b3a3a9fd44", func := "oriel/oriellaw19.AlphaHolds", spec := "alphaHolds", unfollowed := true, recurses := true, named := ["internal/strconv.uint64pow10", "math/bits.deBruijn32tab", "math/bits.deBruijn64tab"], loops := true, apart := false, laid := [("math/bits.deBruijn32tab", laid_math_bits_deBruijn32tab), ("math/bits.deBruijn64tab", laid_math_bits_deBruijn64tab), ("internal/strconv.uint64pow10", laid_internal_strconv_uint64pow10)], narrowed := true }
def AlphaHoldsUptoSaid : Prop := alphaHoldsUptoRow.holds Tryd.pinned (OpenSpec.upto alphaHoldsSpec)

/-- 'oriellaw19.AlphaKeeps', WHERE WHAT IT READS IS OF BULK AT MOST 1048576: true; the input reads as it did. -/
def alphaKeepsUptoRow : OpenClaim := { program := "yteimloiaipiadaadoor", sum := "3509e16dad79449286e9963308810b251f5740df802e9abb81af72b3a3a9fd44", func := "oriel/oriellaw19.AlphaKeeps", spec := "alphaKeeps", unfollowed := true, recurses := true, named := ["internal/strconv.uint64pow10", "math/bits.deBruijn32tab", "math/bits.deBruijn64tab"], loops := true, apart := false, laid := [("math/bits.deBruijn32tab", laid_math_bits_deBruijn32tab), ("math/bits.deBruijn64tab", laid_math_bits_deBruijn64tab), ("internal/strconv.uint64pow10", laid_internal_strconv_uint64pow10)], narrowed := true }
def AlphaKeepsUptoSaid : Prop := alphaKeepsUptoRow.holds Tryd.pinned (OpenSpec.upto alphaKeepsSpec)

/-- 'oriellaw19.AlphaLikes', WHERE WHAT IT READS IS OF BULK AT MOST 1048576: true; the input reads as it did. -/
def alphaLikesUptoRow : OpenClaim := { program := "yteimloiaipiadaadoor", sum := "3509e16dad79449286e9963308810b251f5740df802e9abb81af72b3a3a9fd44", func := "oriel/oriellaw19.AlphaLikes", spec := "alphaLikes", unfollowed := true, recurses := true, named := ["internal/strconv.uint64pow10", "math/bits.deBruijn32tab", "math/bits.deBruijn64tab"], loops := true, apart := false, laid := [("math/bits.deBruijn32tab", laid_math_bits_deBruijn32tab), ("math/bits.deBruijn64tab", laid_math_bits_deBruijn64tab), ("internal/strconv.uint64pow10", laid_internal_strconv_uint64pow10)], narrowed := true }
def AlphaLikesUptoSaid : Prop := alphaLikesUptoRow.holds Tryd.pinned (OpenSpec.upto alphaLikesSpec)

/-- 'oriellaw19.AlphaAll', WHERE WHAT IT READS IS OF BULK AT MOST 1048576: true; the input reads as it did. -/
def alphaAllUptoRow : OpenClaim := { program := "yteimloiaipiadaadoor", sum := "3509e16dad79449286e9963308810b251f5740df802e9abb81af72b3a3a9fd44", func := "oriel/oriellaw19.AlphaAll", spec := "alphaAll", unfollowed := true, recurses := true, named := ["internal/strconv.uint64pow10", "math/bits.deBruijn32tab", "math/bits.deBruijn64tab"], loops := true, apart := false, laid := [("math/bits.deBruijn32tab", laid_math_bits_deBruijn32tab), ("math/bits.deBruijn64tab", laid_math_bits_deBruijn64tab), ("internal/strconv.uint64pow10", laid_internal_strconv_uint64pow10)], narrowed := true }
def AlphaAllUptoSaid : Prop := alphaAllUptoRow.holds Tryd.pinned (OpenSpec.upto alphaAllSpec)

/-- 'oriellaw19.AlphaRight', WHERE WHAT IT READS IS OF BULK AT MOST 1048576: true; the input reads as it did. -/
def alphaRightUptoRow : OpenClaim := { program := "yteimloiaipiadaadoor", sum := "3509e16dad79449286e9963308810b251f5740df802e9abb81af72b3a3a9fd44", func := "oriel/oriellaw19.AlphaRight", spec := "alphaRight", unfollowed := true, recurses := true, named := ["internal/strconv.uint64pow10", "math/bits.deBruijn32tab", "math/bits.deBruijn64tab"], loops := true, apart := false, laid := [("math/bits.deBruijn32tab", laid_math_bits_deBruijn32tab), ("math/bits.deBruijn64tab", laid_math_bits_deBruijn64tab), ("internal/strconv.uint64pow10", laid_internal_strconv_uint64pow10)], narrowed := true }
def AlphaRightUptoSaid : Prop := alphaRightUptoRow.holds Tryd.pinned (OpenSpec.upto alphaRightSpec)

end Rows
end Go.Proofs.YteimloiaipiadaaDoor
