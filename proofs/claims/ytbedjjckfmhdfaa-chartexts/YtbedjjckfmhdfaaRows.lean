/-
  No cell of these rows narrows 'for every input' (looked for: loops, veiled, ifaces, maps, wideKeys, modest, calm, conditions, laid).
  DERIVED. THE GIVEN ROWS OF THIS SEAT. 5 by the template 'for every input the law returns true; each argument reads behind the call as it read before'; 0 by the template 'total and deterministic' (their statements: YtbedjjckfmhdfaaTotals.lean).
  GIVEN WITH THE SEED: the statements are not yours to turn. If you find one false, say at which input.
  Laid BY PROGRAM, IN A SANDBOX (cutbox-rows.mjs): the forced cells as the released guide's own fill.sh prints them over the translation 7954bf4f35aeae8a… (all of the seat's roots in one cut). By AI agents, Wed Nov 11 2026. No macro, syntax, notation, axiom, sorry.
-/
import Derived.Test.YtbedjjckfmhdfaaChecked
import GoSem.Claim
import GoSem.ClaimJoined
import GoSem.ClaimMapViews
import Derived.JoinedTies
import Derived.KernelRfl
namespace Go.Proofs.Ytbedjjckfmhdfaa
/- THE CELL 'sum', in the pinned program and in every row, IS THE sha256 OF THE DUMP (.gsa) THAT YtbedjjckfmhdfaaProg.lean LOADS. Nothing in Lean hashes anything: it is a label: what it is worth is what the hold of that sum in a sandbox is worth. -/
noncomputable def Try.pinned : Pinned := { name := "ytbedjjckfmhdfaa", sum := "7954bf4f35aeae8a6e9e1bc9014282a51ee1397e34f9d5c0adde065b0705bc07", checked := Try.checked }
namespace Rows
def none {H : Type} : Left H := { results := [], args := [] }

/-- 'oriellaw02.CharClasses': WHATEVER THE INPUT: true; the input reads as it did. -/
def charClassesSpec : ChangeSpec := { name := "charClasses", fn := fun _ => fun
  | [d] => { results := [.lit (.bool true)], args := [d] }
  | _ => none }
def charClassesRow : OpenClaim := { program := "ytbedjjckfmhdfaa", sum := "7954bf4f35aeae8a6e9e1bc9014282a51ee1397e34f9d5c0adde065b0705bc07", func := "oriel/oriellaw02.CharClasses", spec := "charClasses", unfollowed := true, recurses := true, apart := false }
def CharClassesSaid : Prop := charClassesRow.holds Try.pinned (OpenSpec.ofChange charClassesSpec)

/-- ITS FALSE NEIGHBOUR: 'it returns false'. Refute it at one input. -/
def charClassesWrong : ChangeSpec := { name := "charClasses", fn := fun _ => fun
  | [d] => { results := [.lit (.bool false)], args := [d] }
  | _ => none }
def CharClassesWrongFalsely : Prop := charClassesRow.holds Try.pinned (OpenSpec.ofChange charClassesWrong)

/-- 'oriellaw02.CharAlls': WHATEVER THE INPUT: true; the input reads as it did. -/
def charAllsSpec : ChangeSpec := { name := "charAlls", fn := fun _ => fun
  | [d1, d2] => { results := [.lit (.bool true)], args := [d1, d2] }
  | _ => none }
def charAllsRow : OpenClaim := { program := "ytbedjjckfmhdfaa", sum := "7954bf4f35aeae8a6e9e1bc9014282a51ee1397e34f9d5c0adde065b0705bc07", func := "oriel/oriellaw02.CharAlls", spec := "charAlls", unfollowed := true, recurses := true, apart := false }
def CharAllsSaid : Prop := charAllsRow.holds Try.pinned (OpenSpec.ofChange charAllsSpec)

/-- ITS FALSE NEIGHBOUR: 'it returns false'. Refute it at one input. -/
def charAllsWrong : ChangeSpec := { name := "charAlls", fn := fun _ => fun
  | [d1, d2] => { results := [.lit (.bool false)], args := [d1, d2] }
  | _ => none }
def CharAllsWrongFalsely : Prop := charAllsRow.holds Try.pinned (OpenSpec.ofChange charAllsWrong)

/-- 'oriellaw02.CharNames': WHATEVER THE INPUT: true; the input reads as it did. -/
def charNamesSpec : ChangeSpec := { name := "charNames", fn := fun _ => fun
  | [d] => { results := [.lit (.bool true)], args := [d] }
  | _ => none }
def charNamesRow : OpenClaim := { program := "ytbedjjckfmhdfaa", sum := "7954bf4f35aeae8a6e9e1bc9014282a51ee1397e34f9d5c0adde065b0705bc07", func := "oriel/oriellaw02.CharNames", spec := "charNames", unfollowed := true, recurses := true, apart := false }
def CharNamesSaid : Prop := charNamesRow.holds Try.pinned (OpenSpec.ofChange charNamesSpec)

/-- ITS FALSE NEIGHBOUR: 'it returns false'. Refute it at one input. -/
def charNamesWrong : ChangeSpec := { name := "charNames", fn := fun _ => fun
  | [d] => { results := [.lit (.bool false)], args := [d] }
  | _ => none }
def CharNamesWrongFalsely : Prop := charNamesRow.holds Try.pinned (OpenSpec.ofChange charNamesWrong)

/-- 'oriellaw02.CharEnds': WHATEVER THE INPUT: true; the input reads as it did. -/
def charEndsSpec : ChangeSpec := { name := "charEnds", fn := fun _ => fun
  | [d] => { results := [.lit (.bool true)], args := [d] }
  | _ => none }
def charEndsRow : OpenClaim := { program := "ytbedjjckfmhdfaa", sum := "7954bf4f35aeae8a6e9e1bc9014282a51ee1397e34f9d5c0adde065b0705bc07", func := "oriel/oriellaw02.CharEnds", spec := "charEnds", unfollowed := true, recurses := true, apart := false }
def CharEndsSaid : Prop := charEndsRow.holds Try.pinned (OpenSpec.ofChange charEndsSpec)

/-- ITS FALSE NEIGHBOUR: 'it returns false'. Refute it at one input. -/
def charEndsWrong : ChangeSpec := { name := "charEnds", fn := fun _ => fun
  | [d] => { results := [.lit (.bool false)], args := [d] }
  | _ => none }
def CharEndsWrongFalsely : Prop := charEndsRow.holds Try.pinned (OpenSpec.ofChange charEndsWrong)

/-- 'oriellaw02.CharTexts': WHATEVER THE INPUT: true; the input reads as it did. -/
def charTextsSpec : ChangeSpec := { name := "charTexts", fn := fun _ => fun
  | [d1, d2] => { results := [.lit (.bool true)], args := [d1, d2] }
  | _ => none }
def charTextsRow : OpenClaim := { program := "ytbedjjckfmhdfaa", sum := "7954bf4f35aeae8a6e9e1bc9014282a51ee1397e34f9d5c0adde065b0705bc07", func := "oriel/oriellaw02.CharTexts", spec := "charTexts", unfollowed := true, recurses := true, apart := false }
def CharTextsSaid : Prop := charTextsRow.holds Try.pinned (OpenSpec.ofChange charTextsSpec)

/-- ITS FALSE NEIGHBOUR: 'it returns false'. Refute it at one input. -/
def charTextsWrong : ChangeSpec := { name := "charTexts", fn := fun _ => fun
  | [d1, d2] => { results := [.lit (.bool false)], args := [d1, d2] }
  | _ => none }
def CharTextsWrongFalsely : Prop := charTextsRow.holds Try.pinned (OpenSpec.ofChange charTextsWrong)

/- THE SECOND FORM. 'bulk': how many values and letters a reading holds, each counted each time it is reached (what is shared counts as often as it is met; a slice's spare places count too). A statement '..UptoSaid' is the law's where the arguments, and the package variables that the reading takes, are together of bulk at most 1048576: NARROWER than '..Said'. Prove '..Said' where nothing that the law and all that it calls make is longer than what came in: it says more and counts as full. Else prove '..UptoSaid'. A law counts once. -/
mutual
def uptoBulk {H : Type} : DataW H → Nat
  | .lit (.string bytes) => bytes.length + 1
  | .lit _ => 1
  | .nil => 1
  | .ptr d => uptoBulk d + 1
  | .slice elems spare => uptoBulkAll elems + uptoBulkAll spare + 1
  | .agg parts => uptoBulkAll parts + 1
  | .iface _ d => uptoBulk d + 1
  | .map entries => uptoBulkEntries entries + 1
  | .held _ => 1
def uptoBulkAll {H : Type} : List (DataW H) → Nat
  | [] => 0
  | d :: r => uptoBulk d + uptoBulkAll r
def uptoBulkEntries {H : Type} : List (Lit × DataW H) → Nat
  | [] => 0
  | x :: r => uptoBulkEntry x + uptoBulkEntries r
def uptoBulkEntry {H : Type} : Lit × DataW H → Nat
  | (.string bytes, d) => bytes.length + uptoBulk d + 1
  | (_, d) => uptoBulk d + 1
 end
def uptoSmall : (H : Type) → List (DataW H) → Bool := fun _ ds => decide (uptoBulkAll ds ≤ 1048576)
def OpenSpec.upto (s : _root_.Go.ChangeSpec) : _root_.Go.OpenSpec := { _root_.Go.OpenSpec.ofChange s with cond := some uptoSmall }

/-- 'oriellaw02.CharClasses', WHERE WHAT IT READS IS OF BULK AT MOST 1048576: true; the input reads as it did. -/
def charClassesUptoRow : OpenClaim := { program := "ytbedjjckfmhdfaa", sum := "7954bf4f35aeae8a6e9e1bc9014282a51ee1397e34f9d5c0adde065b0705bc07", func := "oriel/oriellaw02.CharClasses", spec := "charClasses", unfollowed := true, recurses := true, apart := false, narrowed := true }
def CharClassesUptoSaid : Prop := charClassesUptoRow.holds Try.pinned (OpenSpec.upto charClassesSpec)

/-- 'oriellaw02.CharAlls', WHERE WHAT IT READS IS OF BULK AT MOST 1048576: true; the input reads as it did. -/
def charAllsUptoRow : OpenClaim := { program := "ytbedjjckfmhdfaa", sum := "7954bf4f35aeae8a6e9e1bc9014282a51ee1397e34f9d5c0adde065b0705bc07", func := "oriel/oriellaw02.CharAlls", spec := "charAlls", unfollowed := true, recurses := true, apart := false, narrowed := true }
def CharAllsUptoSaid : Prop := charAllsUptoRow.holds Try.pinned (OpenSpec.upto charAllsSpec)

/-- 'oriellaw02.CharNames', WHERE WHAT IT READS IS OF BULK AT MOST 1048576: true; the input reads as it did. -/
def charNamesUptoRow : OpenClaim := { program := "ytbedjjckfmhdfaa", sum := "7954bf4f35aeae8a6e9e1bc9014282a51ee1397e34f9d5c0adde065b0705bc07", func := "oriel/oriellaw02.CharNames", spec := "charNames", unfollowed := true, recurses := true, apart := false, narrowed := true }
def CharNamesUptoSaid : Prop := charNamesUptoRow.holds Try.pinned (OpenSpec.upto charNamesSpec)

/-- 'oriellaw02.CharEnds', WHERE WHAT IT READS IS OF BULK AT MOST 1048576: true; the input reads as it did. -/
def charEndsUptoRow : OpenClaim := { program := "ytbedjjckfmhdfaa", sum := "7954bf4f35aeae8a6e9e1bc9014282a51ee1397e34f9d5c0adde065b0705bc07", func := "oriel/oriellaw02.CharEnds", spec := "charEnds", unfollowed := true, recurses := true, apart := false, narrowed := true }
def CharEndsUptoSaid : Prop := charEndsUptoRow.holds Try.pinned (OpenSpec.upto charEndsSpec)

/-- 'oriellaw02.CharTexts', WHERE WHAT IT READS IS OF BULK AT MOST 1048576: true; the input reads as it did. -/
def charTextsUptoRow : OpenClaim := { program := "ytbedjjckfmhdfaa", sum := "7954bf4f35aeae8a6e9e1bc9014282a51ee1397e34f9d5c0adde065b0705bc07", func := "oriel/oriellaw02.CharTexts", spec := "charTexts", unfollowed := true, recurses := true, apart := false, narrowed := true }
def CharTextsUptoSaid : Prop := charTextsUptoRow.holds Try.pinned (OpenSpec.upto charTextsSpec)

end Rows
end Go.Proofs.Ytbedjjckfmhdfaa
