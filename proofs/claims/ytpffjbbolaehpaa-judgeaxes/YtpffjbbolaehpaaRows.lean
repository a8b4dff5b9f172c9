/-
  NARROWER THAN 'FOR EVERY INPUT', by the rows' own cells (each row's printed sentence says how): JudgeSelects: loops · JudgeHolds: loops · JudgeForward: loops · JudgeKeeps: loops.
  DERIVED. THE GIVEN ROWS OF THIS SEAT. 5 by the template 'for every input the law returns true; each argument reads behind the call as it read before'; 0 by the template 'total and deterministic' (their statements: YtpffjbbolaehpaaTotals.lean).
  GIVEN WITH THE SEED: the statements are not yours to turn. If you find one false, say at which input.
  Laid BY PROGRAM, IN A SANDBOX (cutbox-rows.mjs): the forced cells as the released guide's own fill.sh prints them over the translation b800461fb6e62032… (all of the seat's roots in one cut). By AI agents, Wed Nov 11 2026. No macro, syntax, notation, axiom, sorry.
-/
import Derived.Test.YtpffjbbolaehpaaChecked
import GoSem.Claim
import GoSem.ClaimJoined
import GoSem.ClaimMapViews
import Derived.JoinedTies
import Derived.KernelRfl
namespace Go.Proofs.Ytpffjbbolaehpaa
/- THE CELL 'sum', in the pinned program and in every row, IS THE sha256 OF THE DUMP (.gsa) THAT YtpffjbbolaehpaaProg.lean LOADS. Nothing in Lean hashes anything: it is a label: what it is worth is what the hold of that sum in a sandbox is worth. -/
noncomputable def Try.pinned : Pinned := { name := "ytpffjbbolaehpaa", sum := "b800461fb6e6203207019f6ccbc6370aa8cca5dfb56ebc781f9752a97908157e", checked := Try.checked }
namespace Rows
def none {H : Type} : Left H := { results := [], args := [] }

/-- 'oriellaw16.JudgeSelects': WHATEVER THE INPUT: true; the input reads as it did. -/
def judgeSelectsSpec : ChangeSpec := { name := "judgeSelects", fn := fun _ => fun
  | [d1, d2, d3] => { results := [.lit (.bool true)], args := [d1, d2, d3] }
  | _ => none }
def judgeSelectsRow : OpenClaim := { program := "ytpffjbbolaehpaa", sum := "b800461fb6e6203207019f6ccbc6370aa8cca5dfb56ebc781f9752a97908157e", func := "oriel/oriellaw16.JudgeSelects", spec := "judgeSelects", unfollowed := true, recurses := true, loops := true, apart := false }
def JudgeSelectsSaid : Prop := judgeSelectsRow.holds Try.pinned (OpenSpec.ofChange judgeSelectsSpec)

/-- ITS FALSE NEIGHBOUR: 'it returns false'. Refute it at one input. -/
def judgeSelectsWrong : ChangeSpec := { name := "judgeSelects", fn := fun _ => fun
  | [d1, d2, d3] => { results := [.lit (.bool false)], args := [d1, d2, d3] }
  | _ => none }
def JudgeSelectsWrongFalsely : Prop := judgeSelectsRow.holds Try.pinned (OpenSpec.ofChange judgeSelectsWrong)

/-- 'oriellaw16.JudgeHolds': WHATEVER THE INPUT: true; the input reads as it did. -/
def judgeHoldsSpec : ChangeSpec := { name := "judgeHolds", fn := fun _ => fun
  | [d1, d2] => { results := [.lit (.bool true)], args := [d1, d2] }
  | _ => none }
def judgeHoldsRow : OpenClaim := { program := "ytpffjbbolaehpaa", sum := "b800461fb6e6203207019f6ccbc6370aa8cca5dfb56ebc781f9752a97908157e", func := "oriel/oriellaw16.JudgeHolds", spec := "judgeHolds", unfollowed := true, recurses := true, loops := true, apart := false }
def JudgeHoldsSaid : Prop := judgeHoldsRow.holds Try.pinned (OpenSpec.ofChange judgeHoldsSpec)

/-- ITS FALSE NEIGHBOUR: 'it returns false'. Refute it at one input. -/
def judgeHoldsWrong : ChangeSpec := { name := "judgeHolds", fn := fun _ => fun
  | [d1, d2] => { results := [.lit (.bool false)], args := [d1, d2] }
  | _ => none }
def JudgeHoldsWrongFalsely : Prop := judgeHoldsRow.holds Try.pinned (OpenSpec.ofChange judgeHoldsWrong)

/-- 'oriellaw16.JudgeForward': WHATEVER THE INPUT: true; the input reads as it did. -/
def judgeForwardSpec : ChangeSpec := { name := "judgeForward", fn := fun _ => fun
  | [d1, d2, d3] => { results := [.lit (.bool true)], args := [d1, d2, d3] }
  | _ => none }
def judgeForwardRow : OpenClaim := { program := "ytpffjbbolaehpaa", sum := "b800461fb6e6203207019f6ccbc6370aa8cca5dfb56ebc781f9752a97908157e", func := "oriel/oriellaw16.JudgeForward", spec := "judgeForward", unfollowed := true, recurses := true, loops := true, apart := false }
def JudgeForwardSaid : Prop := judgeForwardRow.holds Try.pinned (OpenSpec.ofChange judgeForwardSpec)

/-- ITS FALSE NEIGHBOUR: 'it returns false'. Refute it at one input. -/
def judgeForwardWrong : ChangeSpec := { name := "judgeForward", fn := fun _ => fun
  | [d1, d2, d3] => { results := [.lit (.bool false)], args := [d1, d2, d3] }
  | _ => none }
def JudgeForwardWrongFalsely : Prop := judgeForwardRow.holds Try.pinned (OpenSpec.ofChange judgeForwardWrong)

/-- 'oriellaw16.JudgeAxes': WHATEVER THE INPUT: true; the input reads as it did. -/
def judgeAxesSpec : ChangeSpec := { name := "judgeAxes", fn := fun _ => fun
  | [d1, d2] => { results := [.lit (.bool true)], args := [d1, d2] }
  | _ => none }
def judgeAxesRow : OpenClaim := { program := "ytpffjbbolaehpaa", sum := "b800461fb6e6203207019f6ccbc6370aa8cca5dfb56ebc781f9752a97908157e", func := "oriel/oriellaw16.JudgeAxes", spec := "judgeAxes", unfollowed := true, recurses := true, apart := false }
def JudgeAxesSaid : Prop := judgeAxesRow.holds Try.pinned (OpenSpec.ofChange judgeAxesSpec)

/-- ITS FALSE NEIGHBOUR: 'it returns false'. Refute it at one input. -/
def judgeAxesWrong : ChangeSpec := { name := "judgeAxes", fn := fun _ => fun
  | [d1, d2] => { results := [.lit (.bool false)], args := [d1, d2] }
  | _ => none }
def JudgeAxesWrongFalsely : Prop := judgeAxesRow.holds Try.pinned (OpenSpec.ofChange judgeAxesWrong)

/-- 'oriellaw16.JudgeKeeps': WHATEVER THE INPUT: true; the input reads as it did. -/
def judgeKeepsSpec : ChangeSpec := { name := "judgeKeeps", fn := fun _ => fun
  | [d1, d2] => { results := [.lit (.bool true)], args := [d1, d2] }
  | _ => none }
def judgeKeepsRow : OpenClaim := { program := "ytpffjbbolaehpaa", sum := "b800461fb6e6203207019f6ccbc6370aa8cca5dfb56ebc781f9752a97908157e", func := "oriel/oriellaw16.JudgeKeeps", spec := "judgeKeeps", unfollowed := true, recurses := true, loops := true, apart := false }
def JudgeKeepsSaid : Prop := judgeKeepsRow.holds Try.pinned (OpenSpec.ofChange judgeKeepsSpec)

/-- ITS FALSE NEIGHBOUR: 'it returns false'. Refute it at one input. -/
def judgeKeepsWrong : ChangeSpec := { name := "judgeKeeps", fn := fun _ => fun
  | [d1, d2] => { results := [.lit (.bool false)], args := [d1, d2] }
  | _ => none }
def JudgeKeepsWrongFalsely : Prop := judgeKeepsRow.holds Try.pinned (OpenSpec.ofChange judgeKeepsWrong)

/- THE SECOND FORM. 'bulk': how many values and letters a reading holds, each counted each time it is reached (what is shared counts as often as it is met; a slice's spare places count too). A statement '..UptoSaid' is the law's where the arguments, and the package variables that the reading takes, are together of bulk at most 1048576: NARROWER than '..Said'. Prove '..Said' where nothing that the law and all that it calls make is longer than what came in: it says more and counts as full. Else prove '..UptoSaid'. A law counts once. -/
mutual
def uptoBulk {H : Type} : DataW H → Nat
  | .lit (.string bytes) => bytes.length + 1
  | .lit _ => 1
  | .nil => 1
  | .ptr d => uptoBulk d + 1
  | .slice elems spare => uptoBulkAll elems + uptoBulkAll spare + 1
  | .agg parts => uptoBulkAll parts + 1
  | .iface _ d => uptoBulk d + 1
  | .map entries => uptoBulkEntries entries + 1
  | .held _ => 1
def uptoBulkAll {H : Type} : List (DataW H) → Nat
  | [] => 0
  | d :: r => uptoBulk d + uptoBulkAll r
def uptoBulkEntries {H : Type} : List (Lit × DataW H) → Nat
  | [] => 0
  | x :: r => uptoBulkEntry x + uptoBulkEntries r
def uptoBulkEntry {H : Type} : Lit × DataW H → Nat
  | (.string bytes, d) => bytes.length + uptoBulk d + 1
  | (_, d) => uptoBulk d + 1
 end
def uptoSmall : (H : Type) → List (DataW H) → Bool := fun _ ds => decide (uptoBulkAll ds ≤ 1048576)
def OpenSpec.upto (s : _root_.Go.ChangeSpec) : _root_.Go.OpenSpec := { _root_.Go.OpenSpec.ofChange s with cond := some uptoSmall }

/-- 'oriellaw16.JudgeSelects', WHERE WHAT IT READS IS OF BULK AT MOST 1048576: true; the input reads as it did. -/
def judgeSelectsUptoRow : OpenClaim := { program := "ytpffjbbolaehpaa", sum := "b800461fb6e6203207019f6ccbc6370aa8cca5dfb56ebc781f9752a97908157e", func := "oriel/oriellaw16.JudgeSelects", spec := "judgeSelects", unfollowed := true, recurses := true, loops := true, apart := false, narrowed := true }
def JudgeSelectsUptoSaid : Prop := judgeSelectsUptoRow.holds Try.pinned (OpenSpec.upto judgeSelectsSpec)

/-- 'oriellaw16.JudgeHolds', WHERE WHAT IT READS IS OF BULK AT MOST 1048576: true; the input reads as it did. -/
def judgeHoldsUptoRow : OpenClaim := { program := "ytpffjbbolaehpaa", sum := "b800461fb6e6203207019f6ccbc6370aa8cca5dfb56ebc781f9752a97908157e", func := "oriel/oriellaw16.JudgeHolds", spec := "judgeHolds", unfollowed := true, recurses := true, loops := true, apart := false, narrowed := true }
def JudgeHoldsUptoSaid : Prop := judgeHoldsUptoRow.holds Try.pinned (OpenSpec.upto judgeHoldsSpec)

/-- 'oriellaw16.JudgeForward', WHERE WHAT IT READS IS OF BULK AT MOST 1048576: true; the input reads as it did. -/
def judgeForwardUptoRow : OpenClaim := { program := "ytpffjbbolaehpaa", sum := "b800461fb6e6203207019f6ccbc6370aa8cca5dfb56ebc781f9752a97908157e", func := "oriel/oriellaw16.JudgeForward", spec := "judgeForward", unfollowed := true, recurses := true, loops := true, apart := false, narrowed := true }
def JudgeForwardUptoSaid : Prop := judgeForwardUptoRow.holds Try.pinned (OpenSpec.upto judgeForwardSpec)

/-- 'oriellaw16.JudgeAxes', WHERE WHAT IT READS IS OF BULK AT MOST 1048576: true; the input reads as it did. -/
def judgeAxesUptoRow : OpenClaim := { program := "ytpffjbbolaehpaa", sum := "b800461fb6e6203207019f6ccbc6370aa8cca5dfb56ebc781f9752a97908157e", func := "oriel/oriellaw16.JudgeAxes", spec := "judgeAxes", unfollowed := true, recurses := true, apart := false, narrowed := true }
def JudgeAxesUptoSaid : Prop := judgeAxesUptoRow.holds Try.pinned (OpenSpec.upto judgeAxesSpec)

/-- 'oriellaw16.JudgeKeeps', WHERE WHAT IT READS IS OF BULK AT MOST 1048576: true; the input reads as it did. -/
def judgeKeepsUptoRow : OpenClaim := { program := "ytpffjbbolaehpaa", sum := "b800461fb6e6203207019f6ccbc6370aa8cca5dfb56ebc781f9752a97908157e", func := "oriel/oriellaw16.JudgeKeeps", spec := "judgeKeeps", unfollowed := true, recurses := true, loops := true, apart := false, narrowed := true }
def JudgeKeepsUptoSaid : Prop := judgeKeepsUptoRow.holds Try.pinned (OpenSpec.upto judgeKeepsSpec)

end Rows
end Go.Proofs.Ytpffjbbolaehpaa
