/-
  DERIVED. GIVEN WITH THE SEED: THE CARDS: each row of YtpefkehcibdjgaaDoorRows.lean that lists a variable, with what it lists TIED to the program's text (the seventh form; the later family's looks); each row that meets fmt, with fmt's text TOLD by the authors' own Lean function (tested against real Go, not proved from fmt's source: count such statements apart). THE CARD IS WHAT COUNTS. Prove the row's statement (the work); the ties are given (YtpefkehcibdjgaaDoorTie.lean); close each card by the builder's one call (the guide's Derived/Test/ToyasCard.lean, 'card_holds'). Laid BY PROGRAM, IN A SANDBOX (cutbox-door.mjs). By AI agents, Wed Nov 11 2026. No macro, syntax, notation, axiom, sorry.
-/
import Derived.Test.YtpefkehcibdjgaaDoorRows
import GoSem.ClaimSeven
namespace Go.Proofs.YtpefkehcibdjgaaDoor
namespace Rows

/-- THE TIED CARD OF 'numerarylaw11.TokenWrong'. -/
def tokenWrongCard : Claim7 := { stood := { row := tokenWrongRow, standIns := [], harness := (true, "4a45266a99a75b8822e5129e22a111fc600e6500d8c51b3751f963a193702cfe"), looks := false }, kinds := [], alts := [], laidByText := true, laidKinds := [.data, .data, .data, .pinned, .pinned], laidTests := true, laidLooks := .later }
def TokenWrongCardSaid : Prop := Claim7.holds Tryd.pinned (.plain (OpenSpec.ofChange tokenWrongSpec)) tokenWrongCard

/-- THE TIED CARD OF 'numerarylaw11.TokenJoins'. -/
def tokenJoinsCard : Claim7 := { stood := { row := tokenJoinsRow, standIns := [], harness := (true, "4a45266a99a75b8822e5129e22a111fc600e6500d8c51b3751f963a193702cfe"), looks := false }, kinds := [], alts := [], laidByText := true, laidKinds := [.data, .data, .data, .pinned, .pinned], laidTests := true, laidLooks := .later }
def TokenJoinsCardSaid : Prop := Claim7.holds Tryd.pinned (.plain (OpenSpec.ofChange tokenJoinsSpec)) tokenJoinsCard

/-- THE TIED CARD OF 'numerarylaw01.RunesTexts'. -/
def runesTextsCard : Claim7 := { stood := { row := runesTextsRow, standIns := [], harness := (true, "4a45266a99a75b8822e5129e22a111fc600e6500d8c51b3751f963a193702cfe"), looks := false }, kinds := [], alts := [], laidByText := true, laidKinds := [.data, .pinned], laidTests := true, laidLooks := .later }
def RunesTextsCardSaid : Prop := Claim7.holds Tryd.pinned (.plain (OpenSpec.ofChange runesTextsSpec)) runesTextsCard

/-- THE TIED CARD OF 'numerarylaw01.RunesReads'. -/
def runesReadsCard : Claim7 := { stood := { row := runesReadsRow, standIns := [], harness := (true, "4a45266a99a75b8822e5129e22a111fc600e6500d8c51b3751f963a193702cfe"), looks := false }, kinds := [], alts := [], laidByText := true, laidKinds := [.data, .pinned], laidTests := true, laidLooks := .later }
def RunesReadsCardSaid : Prop := Claim7.holds Tryd.pinned (.plain (OpenSpec.ofChange runesReadsSpec)) runesReadsCard

/-- THE TIED CARD OF 'numerarylaw01.RunesBack'. -/
def runesBackCard : Claim7 := { stood := { row := runesBackRow, standIns := [], harness := (true, "4a45266a99a75b8822e5129e22a111fc600e6500d8c51b3751f963a193702cfe"), looks := false }, kinds := [], alts := [], laidByText := true, laidKinds := [.data, .pinned], laidTests := true, laidLooks := .later }
def RunesBackCardSaid : Prop := Claim7.holds Tryd.pinned (.plain (OpenSpec.ofChange runesBackSpec)) runesBackCard

/-- THE TIED CARD OF 'numerarylaw01.RunesJoin'. -/
def runesJoinCard : Claim7 := { stood := { row := runesJoinRow, standIns := [], harness := (true, "4a45266a99a75b8822e5129e22a111fc600e6500d8c51b3751f963a193702cfe"), looks := false }, kinds := [], alts := [], laidByText := true, laidKinds := [.data, .pinned], laidTests := true, laidLooks := .later }
def RunesJoinCardSaid : Prop := Claim7.holds Tryd.pinned (.plain (OpenSpec.ofChange runesJoinSpec)) runesJoinCard

/-- THE TIED CARD OF 'numerarylaw11.TokenAll'. -/
def tokenAllCard : Claim7 := { stood := { row := tokenAllRow, standIns := [], harness := (true, "4a45266a99a75b8822e5129e22a111fc600e6500d8c51b3751f963a193702cfe"), looks := false }, kinds := [], alts := [], laidByText := true, laidKinds := [.data, .data, .data, .pinned, .pinned], laidTests := true, laidLooks := .later }
def TokenAllCardSaid : Prop := Claim7.holds Tryd.pinned (.plain (OpenSpec.ofChange tokenAllSpec)) tokenAllCard

/-- THE TIED CARD OF 'numerarylaw11.TokenLong'. -/
def tokenLongCard : Claim7 := { stood := { row := tokenLongRow, standIns := [], harness := (true, "4a45266a99a75b8822e5129e22a111fc600e6500d8c51b3751f963a193702cfe"), looks := false }, kinds := [], alts := [], laidByText := true, laidKinds := [.data, .data, .data, .pinned, .pinned], laidTests := true, laidLooks := .later }
def TokenLongCardSaid : Prop := Claim7.holds Tryd.pinned (.plain (OpenSpec.ofChange tokenLongSpec)) tokenLongCard

/-- THE TIED CARD OF 'numerarylaw11.TokenCodes'. -/
def tokenCodesCard : Claim7 := { stood := { row := tokenCodesRow, standIns := [], harness := (true, "4a45266a99a75b8822e5129e22a111fc600e6500d8c51b3751f963a193702cfe"), looks := false }, kinds := [], alts := [], laidByText := true, laidKinds := [.data, .data, .data, .pinned, .pinned], laidTests := true, laidLooks := .later }
def TokenCodesCardSaid : Prop := Claim7.holds Tryd.pinned (.plain (OpenSpec.ofChange tokenCodesSpec)) tokenCodesCard

/-- THE TIED CARD OF 'numerarylaw11.TokenBack'. -/
def tokenBackCard : Claim7 := { stood := { row := tokenBackRow, standIns := [], harness := (true, "4a45266a99a75b8822e5129e22a111fc600e6500d8c51b3751f963a193702cfe"), looks := false }, kinds := [], alts := [], laidByText := true, laidKinds := [.data, .data, .data, .pinned, .pinned], laidTests := true, laidLooks := .later }
def TokenBackCardSaid : Prop := Claim7.holds Tryd.pinned (.plain (OpenSpec.ofChange tokenBackSpec)) tokenBackCard

/-- THE SECOND FORM's CARD OF 'numerarylaw11.TokenWrong'. -/
def tokenWrongUptoCard : Claim7 := { stood := { row := tokenWrongUptoRow, standIns := [], harness := (true, "4a45266a99a75b8822e5129e22a111fc600e6500d8c51b3751f963a193702cfe"), looks := false }, kinds := [], alts := [], laidByText := true, laidKinds := [.data, .data, .data, .pinned, .pinned], laidTests := true, laidLooks := .later }
def TokenWrongUptoCardSaid : Prop := Claim7.holds Tryd.pinned (.plain (OpenSpec.upto tokenWrongSpec)) tokenWrongUptoCard

/-- THE SECOND FORM's CARD OF 'numerarylaw11.TokenJoins'. -/
def tokenJoinsUptoCard : Claim7 := { stood := { row := tokenJoinsUptoRow, standIns := [], harness := (true, "4a45266a99a75b8822e5129e22a111fc600e6500d8c51b3751f963a193702cfe"), looks := false }, kinds := [], alts := [], laidByText := true, laidKinds := [.data, .data, .data, .pinned, .pinned], laidTests := true, laidLooks := .later }
def TokenJoinsUptoCardSaid : Prop := Claim7.holds Tryd.pinned (.plain (OpenSpec.upto tokenJoinsSpec)) tokenJoinsUptoCard

/-- THE SECOND FORM's CARD OF 'numerarylaw01.RunesTexts'. -/
def runesTextsUptoCard : Claim7 := { stood := { row := runesTextsUptoRow, standIns := [], harness := (true, "4a45266a99a75b8822e5129e22a111fc600e6500d8c51b3751f963a193702cfe"), looks := false }, kinds := [], alts := [], laidByText := true, laidKinds := [.data, .pinned], laidTests := true, laidLooks := .later }
def RunesTextsUptoCardSaid : Prop := Claim7.holds Tryd.pinned (.plain (OpenSpec.upto runesTextsSpec)) runesTextsUptoCard

/-- THE SECOND FORM's CARD OF 'numerarylaw01.RunesReads'. -/
def runesReadsUptoCard : Claim7 := { stood := { row := runesReadsUptoRow, standIns := [], harness := (true, "4a45266a99a75b8822e5129e22a111fc600e6500d8c51b3751f963a193702cfe"), looks := false }, kinds := [], alts := [], laidByText := true, laidKinds := [.data, .pinned], laidTests := true, laidLooks := .later }
def RunesReadsUptoCardSaid : Prop := Claim7.holds Tryd.pinned (.plain (OpenSpec.upto runesReadsSpec)) runesReadsUptoCard

/-- THE SECOND FORM's CARD OF 'numerarylaw01.RunesBack'. -/
def runesBackUptoCard : Claim7 := { stood := { row := runesBackUptoRow, standIns := [], harness := (true, "4a45266a99a75b8822e5129e22a111fc600e6500d8c51b3751f963a193702cfe"), looks := false }, kinds := [], alts := [], laidByText := true, laidKinds := [.data, .pinned], laidTests := true, laidLooks := .later }
def RunesBackUptoCardSaid : Prop := Claim7.holds Tryd.pinned (.plain (OpenSpec.upto runesBackSpec)) runesBackUptoCard

/-- THE SECOND FORM's CARD OF 'numerarylaw01.RunesJoin'. -/
def runesJoinUptoCard : Claim7 := { stood := { row := runesJoinUptoRow, standIns := [], harness := (true, "4a45266a99a75b8822e5129e22a111fc600e6500d8c51b3751f963a193702cfe"), looks := false }, kinds := [], alts := [], laidByText := true, laidKinds := [.data, .pinned], laidTests := true, laidLooks := .later }
def RunesJoinUptoCardSaid : Prop := Claim7.holds Tryd.pinned (.plain (OpenSpec.upto runesJoinSpec)) runesJoinUptoCard

/-- THE SECOND FORM's CARD OF 'numerarylaw11.TokenAll'. -/
def tokenAllUptoCard : Claim7 := { stood := { row := tokenAllUptoRow, standIns := [], harness := (true, "4a45266a99a75b8822e5129e22a111fc600e6500d8c51b3751f963a193702cfe"), looks := false }, kinds := [], alts := [], laidByText := true, laidKinds := [.data, .data, .data, .pinned, .pinned], laidTests := true, laidLooks := .later }
def TokenAllUptoCardSaid : Prop := Claim7.holds Tryd.pinned (.plain (OpenSpec.upto tokenAllSpec)) tokenAllUptoCard

/-- THE SECOND FORM's CARD OF 'numerarylaw11.TokenLong'. -/
def tokenLongUptoCard : Claim7 := { stood := { row := tokenLongUptoRow, standIns := [], harness := (true, "4a45266a99a75b8822e5129e22a111fc600e6500d8c51b3751f963a193702cfe"), looks := false }, kinds := [], alts := [], laidByText := true, laidKinds := [.data, .data, .data, .pinned, .pinned], laidTests := true, laidLooks := .later }
def TokenLongUptoCardSaid : Prop := Claim7.holds Tryd.pinned (.plain (OpenSpec.upto tokenLongSpec)) tokenLongUptoCard

/-- THE SECOND FORM's CARD OF 'numerarylaw11.TokenCodes'. -/
def tokenCodesUptoCard : Claim7 := { stood := { row := tokenCodesUptoRow, standIns := [], harness := (true, "4a45266a99a75b8822e5129e22a111fc600e6500d8c51b3751f963a193702cfe"), looks := false }, kinds := [], alts := [], laidByText := true, laidKinds := [.data, .data, .data, .pinned, .pinned], laidTests := true, laidLooks := .later }
def TokenCodesUptoCardSaid : Prop := Claim7.holds Tryd.pinned (.plain (OpenSpec.upto tokenCodesSpec)) tokenCodesUptoCard

/-- THE SECOND FORM's CARD OF 'numerarylaw11.TokenBack'. -/
def tokenBackUptoCard : Claim7 := { stood := { row := tokenBackUptoRow, standIns := [], harness := (true, "4a45266a99a75b8822e5129e22a111fc600e6500d8c51b3751f963a193702cfe"), looks := false }, kinds := [], alts := [], laidByText := true, laidKinds := [.data, .data, .data, .pinned, .pinned], laidTests := true, laidLooks := .later }
def TokenBackUptoCardSaid : Prop := Claim7.holds Tryd.pinned (.plain (OpenSpec.upto tokenBackSpec)) tokenBackUptoCard
end Rows
end Go.Proofs.YtpefkehcibdjgaaDoor
