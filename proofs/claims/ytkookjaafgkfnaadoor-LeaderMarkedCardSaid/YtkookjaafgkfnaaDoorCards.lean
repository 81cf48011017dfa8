/-
  DERIVED. GIVEN WITH THE SEED: THE CARDS: each row of YtkookjaafgkfnaaDoorRows.lean that lists a variable, with what it lists TIED to the program's text (the seventh form; the later family's looks); each row that meets fmt, with fmt's text TOLD by the authors' own Lean function (tested against real Go, not proved from fmt's source: count such statements apart). THE CARD IS WHAT COUNTS. Prove the row's statement (the work); the ties are given (YtkookjaafgkfnaaDoorTie.lean); close each card by the builder's one call (the guide's Derived/Test/ToyasCard.lean, 'card_holds'). Laid BY PROGRAM, IN A SANDBOX (cutbox-door.mjs). By AI agents, Wed Nov 11 2026. No macro, syntax, notation, axiom, sorry.
-/
import Derived.Test.YtkookjaafgkfnaaDoorRows
import GoSem.ClaimSeven
namespace Go.Proofs.YtkookjaafgkfnaaDoor
namespace Rows

/-- THE TIED CARD OF 'platenlaw06.LeaderMarks'. -/
def leaderMarksCard : Claim7 := { stood := { row := leaderMarksRow, standIns := [], harness := (true, "de16059deae38d7504a9f3a1255db02af7262cab95dd76449f94450f6f1e734f"), looks := false }, kinds := [], alts := [], laidByText := true, laidKinds := [.data, .data, .pinned], laidTests := true, laidLooks := .later }
def LeaderMarksCardSaid : Prop := Claim7.holds Tryd.pinned (.plain (OpenSpec.ofChange leaderMarksSpec)) leaderMarksCard

/-- THE TIED CARD OF 'platenlaw06.LeaderParts'. -/
def leaderPartsCard : Claim7 := { stood := { row := leaderPartsRow, standIns := [], harness := (true, "de16059deae38d7504a9f3a1255db02af7262cab95dd76449f94450f6f1e734f"), looks := false }, kinds := [], alts := [], laidByText := true, laidKinds := [.data, .data, .pinned], laidTests := true, laidLooks := .later }
def LeaderPartsCardSaid : Prop := Claim7.holds Tryd.pinned (.plain (OpenSpec.ofChange leaderPartsSpec)) leaderPartsCard

/-- THE TIED CARD OF 'platenlaw06.LeaderMarked'. -/
def leaderMarkedCard : Claim7 := { stood := { row := leaderMarkedRow, standIns := [], harness := (true, "de16059deae38d7504a9f3a1255db02af7262cab95dd76449f94450f6f1e734f"), looks := false }, kinds := [], alts := [], laidByText := true, laidKinds := [.data, .data, .pinned], laidTests := true, laidLooks := .later }
def LeaderMarkedCardSaid : Prop := Claim7.holds Tryd.pinned (.plain (OpenSpec.ofChange leaderMarkedSpec)) leaderMarkedCard

/-- THE TIED CARD OF 'platenlaw06.LeaderStays'. -/
def leaderStaysCard : Claim7 := { stood := { row := leaderStaysRow, standIns := [], harness := (true, "de16059deae38d7504a9f3a1255db02af7262cab95dd76449f94450f6f1e734f"), looks := false }, kinds := [], alts := [], laidByText := true, laidKinds := [.data, .data, .pinned], laidTests := true, laidLooks := .later }
def LeaderStaysCardSaid : Prop := Claim7.holds Tryd.pinned (.plain (OpenSpec.ofChange leaderStaysSpec)) leaderStaysCard

/-- THE TIED CARD OF 'platenlaw06.LeaderAgain'. -/
def leaderAgainCard : Claim7 := { stood := { row := leaderAgainRow, standIns := [], harness := (true, "de16059deae38d7504a9f3a1255db02af7262cab95dd76449f94450f6f1e734f"), looks := false }, kinds := [], alts := [], laidByText := true, laidKinds := [.data, .data, .pinned], laidTests := true, laidLooks := .later }
def LeaderAgainCardSaid : Prop := Claim7.holds Tryd.pinned (.plain (OpenSpec.ofChange leaderAgainSpec)) leaderAgainCard

/-- THE SECOND FORM's CARD OF 'platenlaw06.LeaderMarks'. -/
def leaderMarksUptoCard : Claim7 := { stood := { row := leaderMarksUptoRow, standIns := [], harness := (true, "de16059deae38d7504a9f3a1255db02af7262cab95dd76449f94450f6f1e734f"), looks := false }, kinds := [], alts := [], laidByText := true, laidKinds := [.data, .data, .pinned], laidTests := true, laidLooks := .later }
def LeaderMarksUptoCardSaid : Prop := Claim7.holds Tryd.pinned (.plain (OpenSpec.upto leaderMarksSpec)) leaderMarksUptoCard

/-- THE SECOND FORM's CARD OF 'platenlaw06.LeaderParts'. -/
def leaderPartsUptoCard : Claim7 := { stood := { row := leaderPartsUptoRow, standIns := [], harness := (true, "de16059deae38d7504a9f3a1255db02af7262cab95dd76449f94450f6f1e734f"), looks := false }, kinds := [], alts := [], laidByText := true, laidKinds := [.data, .data, .pinned], laidTests := true, laidLooks := .later }
def LeaderPartsUptoCardSaid : Prop := Claim7.holds Tryd.pinned (.plain (OpenSpec.upto leaderPartsSpec)) leaderPartsUptoCard

/-- THE SECOND FORM's CARD OF 'platenlaw06.LeaderMarked'. -/
def leaderMarkedUptoCard : Claim7 := { stood := { row := leaderMarkedUptoRow, standIns := [], harness := (true, "de16059deae38d7504a9f3a1255db02af7262cab95dd76449f94450f6f1e734f"), looks := false }, kinds := [], alts := [], laidByText := true, laidKinds := [.data, .data, .pinned], laidTests := true, laidLooks := .later }
def LeaderMarkedUptoCardSaid : Prop := Claim7.holds Tryd.pinned (.plain (OpenSpec.upto leaderMarkedSpec)) leaderMarkedUptoCard

/-- THE SECOND FORM's CARD OF 'platenlaw06.LeaderStays'. -/
def leaderStaysUptoCard : Claim7 := { stood := { row := leaderStaysUptoRow, standIns := [], harness := (true, "de16059deae38d7504a9f3a1255db02af7262cab95dd76449f94450f6f1e734f"), looks := false }, kinds := [], alts := [], laidByText := true, laidKinds := [.data, .data, .pinned], laidTests := true, laidLooks := .later }
def LeaderStaysUptoCardSaid : Prop := Claim7.holds Tryd.pinned (.plain (OpenSpec.upto leaderStaysSpec)) leaderStaysUptoCard

/-- THE SECOND FORM's CARD OF 'platenlaw06.LeaderAgain'. -/
def leaderAgainUptoCard : Claim7 := { stood := { row := leaderAgainUptoRow, standIns := [], harness := (true, "de16059deae38d7504a9f3a1255db02af7262cab95dd76449f94450f6f1e734f"), looks := false }, kinds := [], alts := [], laidByText := true, laidKinds := [.data, .data, .pinned], laidTests := true, laidLooks := .later }
def LeaderAgainUptoCardSaid : Prop := Claim7.holds Tryd.pinned (.plain (OpenSpec.upto leaderAgainSpec)) leaderAgainUptoCard
end Rows
end Go.Proofs.YtkookjaafgkfnaaDoor
