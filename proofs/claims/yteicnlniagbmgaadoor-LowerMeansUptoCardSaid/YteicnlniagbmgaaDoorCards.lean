/-
  DERIVED. GIVEN WITH THE SEED: THE CARDS: each row of YteicnlniagbmgaaDoorRows.lean that lists a variable, with what it lists TIED to the program's text (the seventh form; the later family's looks); each row that meets fmt, with fmt's text TOLD by the authors' own Lean function (tested against real Go, not proved from fmt's source: count such statements apart). THE CARD IS WHAT COUNTS. Prove the row's statement (the work); the ties are given (YteicnlniagbmgaaDoorTie.lean); close each card by the builder's one call (the guide's Derived/Test/ToyasCard.lean, 'card_holds'). Laid BY PROGRAM, IN A SANDBOX (cutbox-door.mjs). By AI agents, Wed Nov 11 2026. No macro, syntax, notation, axiom, sorry.
-/
import Derived.Test.YteicnlniagbmgaaDoorRows
import GoSem.ClaimSeven
namespace Go.Proofs.YteicnlniagbmgaaDoor
namespace Rows

/-- THE TIED CARD OF 'hurdlelaw13.LowerMeans'. -/
def lowerMeansCard : Claim7 := { stood := { row := lowerMeansRow, standIns := [], harness := (true, "a194d20b6e2ccac4405c0237b337f0ef22d3aaf32767b87d30a92e99afcf7d6b"), looks := false }, kinds := [], alts := [], laidByText := true, laidKinds := [.data], laidTests := true, laidLooks := .later }
def LowerMeansCardSaid : Prop := Claim7.holds Tryd.pinned (.plain (OpenSpec.ofChange lowerMeansSpec)) lowerMeansCard

/-- THE TIED CARD OF 'hurdlelaw13.LowerEdges'. -/
def lowerEdgesCard : Claim7 := { stood := { row := lowerEdgesRow, standIns := [], harness := (true, "a194d20b6e2ccac4405c0237b337f0ef22d3aaf32767b87d30a92e99afcf7d6b"), looks := false }, kinds := [], alts := [], laidByText := true, laidKinds := [.data], laidTests := true, laidLooks := .later }
def LowerEdgesCardSaid : Prop := Claim7.holds Tryd.pinned (.plain (OpenSpec.ofChange lowerEdgesSpec)) lowerEdgesCard

/-- THE TIED CARD OF 'hurdlelaw13.LowerAlike'. -/
def lowerAlikeCard : Claim7 := { stood := { row := lowerAlikeRow, standIns := [], harness := (true, "a194d20b6e2ccac4405c0237b337f0ef22d3aaf32767b87d30a92e99afcf7d6b"), looks := false }, kinds := [], alts := [], laidByText := true, laidKinds := [.data], laidTests := true, laidLooks := .later }
def LowerAlikeCardSaid : Prop := Claim7.holds Tryd.pinned (.plain (OpenSpec.ofChange lowerAlikeSpec)) lowerAlikeCard

/-- THE TIED CARD OF 'hurdlelaw13.LowerTests'. -/
def lowerTestsCard : Claim7 := { stood := { row := lowerTestsRow, standIns := [], harness := (true, "a194d20b6e2ccac4405c0237b337f0ef22d3aaf32767b87d30a92e99afcf7d6b"), looks := false }, kinds := [], alts := [], laidByText := true, laidKinds := [.data], laidTests := true, laidLooks := .later }
def LowerTestsCardSaid : Prop := Claim7.holds Tryd.pinned (.plain (OpenSpec.ofChange lowerTestsSpec)) lowerTestsCard

/-- THE TIED CARD OF 'hurdlelaw13.LowerSound'. -/
def lowerSoundCard : Claim7 := { stood := { row := lowerSoundRow, standIns := [], harness := (true, "a194d20b6e2ccac4405c0237b337f0ef22d3aaf32767b87d30a92e99afcf7d6b"), looks := false }, kinds := [], alts := [], laidByText := true, laidKinds := [.data], laidTests := true, laidLooks := .later }
def LowerSoundCardSaid : Prop := Claim7.holds Tryd.pinned (.plain (OpenSpec.ofChange lowerSoundSpec)) lowerSoundCard

/-- THE SECOND FORM's CARD OF 'hurdlelaw13.LowerMeans'. -/
def lowerMeansUptoCard : Claim7 := { stood := { row := lowerMeansUptoRow, standIns := [], harness := (true, "a194d20b6e2ccac4405c0237b337f0ef22d3aaf32767b87d30a92e99afcf7d6b"), looks := false }, kinds := [], alts := [], laidByText := true, laidKinds := [.data], laidTests := true, laidLooks := .later }
def LowerMeansUptoCardSaid : Prop := Claim7.holds Tryd.pinned (.plain (OpenSpec.upto lowerMeansSpec)) lowerMeansUptoCard

/-- THE SECOND FORM's CARD OF 'hurdlelaw13.LowerEdges'. -/
def lowerEdgesUptoCard : Claim7 := { stood := { row := lowerEdgesUptoRow, standIns := [], harness := (true, "a194d20b6e2ccac4405c0237b337f0ef22d3aaf32767b87d30a92e99afcf7d6b"), looks := false }, kinds := [], alts := [], laidByText := true, laidKinds := [.data], laidTests := true, laidLooks := .later }
def LowerEdgesUptoCardSaid : Prop := Claim7.holds Tryd.pinned (.plain (OpenSpec.upto lowerEdgesSpec)) lowerEdgesUptoCard

/-- THE SECOND FORM's CARD OF 'hurdlelaw13.LowerAlike'. -/
def lowerAlikeUptoCard : Claim7 := { stood := { row := lowerAlikeUptoRow, standIns := [], harness := (true, "a194d20b6e2ccac4405c0237b337f0ef22d3aaf32767b87d30a92e99afcf7d6b"), looks := false }, kinds := [], alts := [], laidByText := true, laidKinds := [.data], laidTests := true, laidLooks := .later }
def LowerAlikeUptoCardSaid : Prop := Claim7.holds Tryd.pinned (.plain (OpenSpec.upto lowerAlikeSpec)) lowerAlikeUptoCard

/-- THE SECOND FORM's CARD OF 'hurdlelaw13.LowerTests'. -/
def lowerTestsUptoCard : Claim7 := { stood := { row := lowerTestsUptoRow, standIns := [], harness := (true, "a194d20b6e2ccac4405c0237b337f0ef22d3aaf32767b87d30a92e99afcf7d6b"), looks := false }, kinds := [], alts := [], laidByText := true, laidKinds := [.data], laidTests := true, laidLooks := .later }
def LowerTestsUptoCardSaid : Prop := Claim7.holds Tryd.pinned (.plain (OpenSpec.upto lowerTestsSpec)) lowerTestsUptoCard

/-- THE SECOND FORM's CARD OF 'hurdlelaw13.LowerSound'. -/
def lowerSoundUptoCard : Claim7 := { stood := { row := lowerSoundUptoRow, standIns := [], harness := (true, "a194d20b6e2ccac4405c0237b337f0ef22d3aaf32767b87d30a92e99afcf7d6b"), looks := false }, kinds := [], alts := [], laidByText := true, laidKinds := [.data], laidTests := true, laidLooks := .later }
def LowerSoundUptoCardSaid : Prop := Claim7.holds Tryd.pinned (.plain (OpenSpec.upto lowerSoundSpec)) lowerSoundUptoCard
end Rows
end Go.Proofs.YteicnlniagbmgaaDoor
