/-
  DERIVED. GIVEN WITH THE SEED: THE CARDS: each row of YteimloiaipiadaaDoorRows.lean that lists a variable, with what it lists TIED to the program's text (the seventh form; the later family's looks); each row that meets fmt, with fmt's text TOLD by the authors' own Lean function (tested against real Go, not proved from fmt's source: count such statements apart). THE CARD IS WHAT COUNTS. Prove the row's statement (the work); the ties are given (YteimloiaipiadaaDoorTie.lean); close each card by the builder's one call (the guide's Derived/Test/ToyasCard.lean, 'card_holds'). Laid BY PROGRAM, IN A SANDBOX (cutbox-door.mjs). By AI agents, Wed Nov 11 2026. No macro, syntax, notation, axiom, sorry.
-/
import Derived.Test.YteimloiaipiadaaDoorRows
import GoSem.ClaimSeven
namespace Go.Proofs.YteimloiaipiadaaDoor
namespace Rows

/-- THE TIED CARD OF 'oriellaw19.AlphaLabels'. -/
def alphaLabelsCard : Claim7 := { stood := { row := alphaLabelsRow, standIns := [], harness := (true, "540205664026ee390b5f65fd3c45a47eb0c1acc218701d7291fa00f7205d0db7"), looks := false }, kinds := [], alts := [], laidByText := true, laidKinds := [.data, .data, .data], laidTests := true, laidLooks := .later }
def AlphaLabelsCardSaid : Prop := Claim7.holds Tryd.pinned (.plain (OpenSpec.ofChange alphaLabelsSpec)) alphaLabelsCard

/-- THE TIED CARD OF 'oriellaw19.AlphaHolds'. -/
def alphaHoldsCard : Claim7 := { stood := { row := alphaHoldsRow, standIns := [], harness := (true, "540205664026ee390b5f65fd3c45a47eb0c1acc218701d7291fa00f7205d0db7"), looks := false }, kinds := [], alts := [], laidByText := true, laidKinds := [.data, .data, .data], laidTests := true, laidLooks := .later }
def AlphaHoldsCardSaid : Prop := Claim7.holds Tryd.pinned (.plain (OpenSpec.ofChange alphaHoldsSpec)) alphaHoldsCard

/-- THE TIED CARD OF 'oriellaw19.AlphaKeeps'. -/
def alphaKeepsCard : Claim7 := { stood := { row := alphaKeepsRow, standIns := [], harness := (true, "540205664026ee390b5f65fd3c45a47eb0c1acc218701d7291fa00f7205d0db7"), looks := false }, kinds := [], alts := [], laidByText := true, laidKinds := [.data, .data, .data], laidTests := true, laidLooks := .later }
def AlphaKeepsCardSaid : Prop := Claim7.holds Tryd.pinned (.plain (OpenSpec.ofChange alphaKeepsSpec)) alphaKeepsCard

/-- THE TIED CARD OF 'oriellaw19.AlphaLikes'. -/
def alphaLikesCard : Claim7 := { stood := { row := alphaLikesRow, standIns := [], harness := (true, "540205664026ee390b5f65fd3c45a47eb0c1acc218701d7291fa00f7205d0db7"), looks := false }, kinds := [], alts := [], laidByText := true, laidKinds := [.data, .data, .data], laidTests := true, laidLooks := .later }
def AlphaLikesCardSaid : Prop := Claim7.holds Tryd.pinned (.plain (OpenSpec.ofChange alphaLikesSpec)) alphaLikesCard

/-- THE TIED CARD OF 'oriellaw19.AlphaAll'. -/
def alphaAllCard : Claim7 := { stood := { row := alphaAllRow, standIns := [], harness := (true, "540205664026ee390b5f65fd3c45a47eb0c1acc218701d7291fa00f7205d0db7"), looks := false }, kinds := [], alts := [], laidByText := true, laidKinds := [.data, .data, .data], laidTests := true, laidLooks := .later }
def AlphaAllCardSaid : Prop := Claim7.holds Tryd.pinned (.plain (OpenSpec.ofChange alphaAllSpec)) alphaAllCard

/-- THE TIED CARD OF 'oriellaw19.AlphaRight'. -/
def alphaRightCard : Claim7 := { stood := { row := alphaRightRow, standIns := [], harness := (true, "540205664026ee390b5f65fd3c45a47eb0c1acc218701d7291fa00f7205d0db7"), looks := false }, kinds := [], alts := [], laidByText := true, laidKinds := [.data, .data, .data], laidTests := true, laidLooks := .later }
def AlphaRightCardSaid : Prop := Claim7.holds Tryd.pinned (.plain (OpenSpec.ofChange alphaRightSpec)) alphaRightCard

/-- THE SECOND FORM's CARD OF 'oriellaw19.AlphaLabels'. -/
def alphaLabelsUptoCard : Claim7 := { stood := { row := alphaLabelsUptoRow, standIns := [], harness := (true, "540205664026ee390b5f65fd3c45a47eb0c1acc218701d7291fa00f7205d0db7"), looks := false }, kinds := [], alts := [], laidByText := true, laidKinds := [.data, .data, .data], laidTests := true, laidLooks := .later }
def AlphaLabelsUptoCardSaid : Prop := Claim7.holds Tryd.pinned (.plain (OpenSpec.upto alphaLabelsSpec)) alphaLabelsUptoCard

/-- THE SECOND FORM's CARD OF 'oriellaw19.AlphaHolds'. -/
def alphaHoldsUptoCard : Claim7 := { stood := { row := alphaHoldsUptoRow, standIns := [], harness := (true, "540205664026ee390b5f65fd3c45a47eb0c1acc218701d7291fa00f7205d0db7"), looks := false }, kinds := [], alts := [], laidByText := true, laidKinds := [.data, .data, .data], laidTests := true, laidLooks := .later }
def AlphaHoldsUptoCardSaid : Prop := Claim7.holds Tryd.pinned (.plain (OpenSpec.upto alphaHoldsSpec)) alphaHoldsUptoCard

/-- THE SECOND FORM's CARD OF 'oriellaw19.AlphaKeeps'. -/
def alphaKeepsUptoCard : Claim7 := { stood := { row := alphaKeepsUptoRow, standIns := [], harness := (true, "540205664026ee390b5f65fd3c45a47eb0c1acc218701d7291fa00f7205d0db7"), looks := false }, kinds := [], alts := [], laidByText := true, laidKinds := [.data, .data, .data], laidTests := true, laidLooks := .later }
def AlphaKeepsUptoCardSaid : Prop := Claim7.holds Tryd.pinned (.plain (OpenSpec.upto alphaKeepsSpec)) alphaKeepsUptoCard

/-- THE SECOND FORM's CARD OF 'oriellaw19.AlphaLikes'. -/
def alphaLikesUptoCard : Claim7 := { stood := { row := alphaLikesUptoRow, standIns := [], harness := (true, "540205664026ee390b5f65fd3c45a47eb0c1acc218701d7291fa00f7205d0db7"), looks := false }, kinds := [], alts := [], laidByText := true, laidKinds := [.data, .data, .data], laidTests := true, laidLooks := .later }
def AlphaLikesUptoCardSaid : Prop := Claim7.holds Tryd.pinned (.plain (OpenSpec.upto alphaLikesSpec)) alphaLikesUptoCard

/-- THE SECOND FORM's CARD OF 'oriellaw19.AlphaAll'. -/
def alphaAllUptoCard : Claim7 := { stood := { row := alphaAllUptoRow, standIns := [], harness := (true, "540205664026ee390b5f65fd3c45a47eb0c1acc218701d7291fa00f7205d0db7"), looks := false }, kinds := [], alts := [], laidByText := true, laidKinds := [.data, .data, .data], laidTests := true, laidLooks := .later }
def AlphaAllUptoCardSaid : Prop := Claim7.holds Tryd.pinned (.plain (OpenSpec.upto alphaAllSpec)) alphaAllUptoCard

/-- THE SECOND FORM's CARD OF 'oriellaw19.AlphaRight'. -/
def alphaRightUptoCard : Claim7 := { stood := { row := alphaRightUptoRow, standIns := [], harness := (true, "540205664026ee390b5f65fd3c45a47eb0c1acc218701d7291fa00f7205d0db7"), looks := false }, kinds := [], alts := [], laidByText := true, laidKinds := [.data, .data, .data], laidTests := true, laidLooks := .later }
def AlphaRightUptoCardSaid : Prop := Claim7.holds Tryd.pinned (.plain (OpenSpec.upto alphaRightSpec)) alphaRightUptoCard
end Rows
end Go.Proofs.YteimloiaipiadaaDoor
