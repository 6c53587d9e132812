/-
  DERIVED. GIVEN WITH THE SEED: THE CARDS: each row of YtpfjboioeidecaaDoorRows.lean that lists a variable, with what it lists TIED to the program's text (the seventh form; the later family's looks); each row that meets fmt, with fmt's text TOLD by the authors' own Lean function (tested against real Go, not proved from fmt's source: count such statements apart). THE CARD IS WHAT COUNTS. Prove the row's statement (the work); the ties are given (YtpfjboioeidecaaDoorTie.lean); close each card by the builder's one call (the guide's Derived/Test/ToyasCard.lean, 'card_holds'). Laid BY PROGRAM, IN A SANDBOX (cutbox-door.mjs). By AI agents, Wed Nov 11 2026. No macro, syntax, notation, axiom, sorry.
-/
import Derived.Test.YtpfjboioeidecaaDoorRows
import GoSem.ClaimSeven
namespace Go.Proofs.YtpfjboioeidecaaDoor
namespace Rows

/-- THE TIED CARD OF 'laws.FnSessions'. -/
def fnSessionsCard : Claim7 := { stood := { row := fnSessionsRow, standIns := [], harness := (true, "7b8eebcff705b4ebb3ef9004c2f1b26ac1b9b325c13b602507963b32359ddc20"), looks := false }, kinds := [], alts := [], laidByText := true, laidKinds := [.data, .data, .data], laidTests := true, laidLooks := .later }
def FnSessionsCardSaid : Prop := Claim7.holds Tryd.pinned (.plain (OpenSpec.ofChange fnSessionsSpec)) fnSessionsCard

/-- THE TIED CARD OF 'laws.FnExactSignedIn'. -/
def fnExactSignedInCard : Claim7 := { stood := { row := fnExactSignedInRow, standIns := [], harness := (true, "7b8eebcff705b4ebb3ef9004c2f1b26ac1b9b325c13b602507963b32359ddc20"), looks := false }, kinds := [], alts := [], laidByText := true, laidKinds := [.data, .data, .data], laidTests := true, laidLooks := .later }
def FnExactSignedInCardSaid : Prop := Claim7.holds Tryd.pinned (.plain (OpenSpec.ofChange fnExactSignedInSpec)) fnExactSignedInCard

/-- THE SECOND FORM's CARD OF 'laws.FnSessions'. -/
def fnSessionsUptoCard : Claim7 := { stood := { row := fnSessionsUptoRow, standIns := [], harness := (true, "7b8eebcff705b4ebb3ef9004c2f1b26ac1b9b325c13b602507963b32359ddc20"), looks := false }, kinds := [], alts := [], laidByText := true, laidKinds := [.data, .data, .data], laidTests := true, laidLooks := .later }
def FnSessionsUptoCardSaid : Prop := Claim7.holds Tryd.pinned (.plain (OpenSpec.upto fnSessionsSpec)) fnSessionsUptoCard

/-- THE SECOND FORM's CARD OF 'laws.FnExactSignedIn'. -/
def fnExactSignedInUptoCard : Claim7 := { stood := { row := fnExactSignedInUptoRow, standIns := [], harness := (true, "7b8eebcff705b4ebb3ef9004c2f1b26ac1b9b325c13b602507963b32359ddc20"), looks := false }, kinds := [], alts := [], laidByText := true, laidKinds := [.data, .data, .data], laidTests := true, laidLooks := .later }
def FnExactSignedInUptoCardSaid : Prop := Claim7.holds Tryd.pinned (.plain (OpenSpec.upto fnExactSignedInSpec)) fnExactSignedInUptoCard
end Rows
end Go.Proofs.YtpfjboioeidecaaDoor
