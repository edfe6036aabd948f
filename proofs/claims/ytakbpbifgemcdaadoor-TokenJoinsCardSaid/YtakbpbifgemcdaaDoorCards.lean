/-
  DERIVED. GIVEN WITH THE SEED: THE CARDS: each row of YtakbpbifgemcdaaDoorRows.lean that lists a variable, with what it lists TIED to the program's text (the seventh form; the later family's looks); each row that meets fmt, with fmt's text TOLD by the authors' own Lean function (tested against real Go, not proved from fmt's source: count such statements apart). THE CARD IS WHAT COUNTS. Prove the row's statement (the work); the ties are given (YtakbpbifgemcdaaDoorTie.lean); close each card by the builder's one call (the guide's Derived/Test/ToyasCard.lean, 'card_holds'). Laid BY PROGRAM, IN A SANDBOX (cutbox-door.mjs). By AI agents, Wed Nov 11 2026. No macro, syntax, notation, axiom, sorry.
-/
import Derived.Test.YtakbpbifgemcdaaDoorRows
import GoSem.ClaimSeven
namespace Go.Proofs.YtakbpbifgemcdaaDoor
namespace Rows

/-- THE TIED CARD OF 'seedcornlaw15.ParseStrengths'. -/
def parseStrengthsCard : Claim7 := { stood := { row := parseStrengthsRow, standIns := [], harness := (true, "d84cf5b7a913d9f58857ebacc9f92229e86dbc51f06dc7de35d9ead5b78caa2b"), looks := true }, kinds := [], alts := [], laidByText := true, laidKinds := [.widerDeep, .data], laidTests := true, laidLooks := .later }
def ParseStrengthsCardSaid : Prop := Claim7.holds Tryd.pinned (.plain (OpenSpec.ofChange parseStrengthsSpec)) parseStrengthsCard

/-- THE TIED CARD OF 'seedcornlaw13.TokenStands'. -/
def tokenStandsCard : Claim7 := { stood := { row := tokenStandsRow, standIns := [], harness := (true, "d84cf5b7a913d9f58857ebacc9f92229e86dbc51f06dc7de35d9ead5b78caa2b"), looks := true }, kinds := [], alts := [], laidByText := true, laidKinds := [.widerDeep, .data], laidTests := true, laidLooks := .later }
def TokenStandsCardSaid : Prop := Claim7.holds Tryd.pinned (.plain (OpenSpec.ofChange tokenStandsSpec)) tokenStandsCard

/-- THE TIED CARD OF 'seedcornlaw15.ParseFront'. -/
def parseFrontCard : Claim7 := { stood := { row := parseFrontRow, standIns := [], harness := (true, "d84cf5b7a913d9f58857ebacc9f92229e86dbc51f06dc7de35d9ead5b78caa2b"), looks := true }, kinds := [], alts := [], laidByText := true, laidKinds := [.widerDeep, .data], laidTests := true, laidLooks := .later }
def ParseFrontCardSaid : Prop := Claim7.holds Tryd.pinned (.plain (OpenSpec.ofChange parseFrontSpec)) parseFrontCard

/-- THE TIED CARD OF 'seedcornlaw13.TokenBack'. -/
def tokenBackCard : Claim7 := { stood := { row := tokenBackRow, standIns := [], harness := (true, "d84cf5b7a913d9f58857ebacc9f92229e86dbc51f06dc7de35d9ead5b78caa2b"), looks := true }, kinds := [], alts := [], laidByText := true, laidKinds := [.widerDeep, .data], laidTests := true, laidLooks := .later }
def TokenBackCardSaid : Prop := Claim7.holds Tryd.pinned (.plain (OpenSpec.ofChange tokenBackSpec)) tokenBackCard

/-- THE TIED CARD OF 'seedcornlaw13.TokenCuts'. -/
def tokenCutsCard : Claim7 := { stood := { row := tokenCutsRow, standIns := [], harness := (true, "d84cf5b7a913d9f58857ebacc9f92229e86dbc51f06dc7de35d9ead5b78caa2b"), looks := true }, kinds := [], alts := [], laidByText := true, laidKinds := [.widerDeep, .data], laidTests := true, laidLooks := .later }
def TokenCutsCardSaid : Prop := Claim7.holds Tryd.pinned (.plain (OpenSpec.ofChange tokenCutsSpec)) tokenCutsCard

/-- THE TIED CARD OF 'seedcornlaw13.TokenJoins'. -/
def tokenJoinsCard : Claim7 := { stood := { row := tokenJoinsRow, standIns := [], harness := (true, "d84cf5b7a913d9f58857ebacc9f92229e86dbc51f06dc7de35d9ead5b78caa2b"), looks := true }, kinds := [], alts := [], laidByText := true, laidKinds := [.widerDeep, .data], laidTests := true, laidLooks := .later }
def TokenJoinsCardSaid : Prop := Claim7.holds Tryd.pinned (.plain (OpenSpec.ofChange tokenJoinsSpec)) tokenJoinsCard

/-- THE TIED CARD OF 'seedcornlaw13.TokenLongest'. -/
def tokenLongestCard : Claim7 := { stood := { row := tokenLongestRow, standIns := [], harness := (true, "d84cf5b7a913d9f58857ebacc9f92229e86dbc51f06dc7de35d9ead5b78caa2b"), looks := true }, kinds := [], alts := [], laidByText := true, laidKinds := [.widerDeep, .data], laidTests := true, laidLooks := .later }
def TokenLongestCardSaid : Prop := Claim7.holds Tryd.pinned (.plain (OpenSpec.ofChange tokenLongestSpec)) tokenLongestCard

/-- THE TIED CARD OF 'seedcornlaw13.TokenNames'. -/
def tokenNamesCard : Claim7 := { stood := { row := tokenNamesRow, standIns := [], harness := (true, "d84cf5b7a913d9f58857ebacc9f92229e86dbc51f06dc7de35d9ead5b78caa2b"), looks := true }, kinds := [], alts := [], laidByText := true, laidKinds := [.widerDeep, .data], laidTests := true, laidLooks := .later }
def TokenNamesCardSaid : Prop := Claim7.holds Tryd.pinned (.plain (OpenSpec.ofChange tokenNamesSpec)) tokenNamesCard

/-- THE TIED CARD OF 'seedcornlaw15.ParseBack'. -/
def parseBackCard : Claim7 := { stood := { row := parseBackRow, standIns := [], harness := (true, "d84cf5b7a913d9f58857ebacc9f92229e86dbc51f06dc7de35d9ead5b78caa2b"), looks := true }, kinds := [], alts := [], laidByText := true, laidKinds := [.widerDeep, .data], laidTests := true, laidLooks := .later }
def ParseBackCardSaid : Prop := Claim7.holds Tryd.pinned (.plain (OpenSpec.ofChange parseBackSpec)) parseBackCard

/-- THE TIED CARD OF 'seedcornlaw15.ParseBlanks'. -/
def parseBlanksCard : Claim7 := { stood := { row := parseBlanksRow, standIns := [], harness := (true, "d84cf5b7a913d9f58857ebacc9f92229e86dbc51f06dc7de35d9ead5b78caa2b"), looks := true }, kinds := [], alts := [], laidByText := true, laidKinds := [.widerDeep, .data], laidTests := true, laidLooks := .later }
def ParseBlanksCardSaid : Prop := Claim7.holds Tryd.pinned (.plain (OpenSpec.ofChange parseBlanksSpec)) parseBlanksCard

/-- THE TIED CARD OF 'seedcornlaw15.ParseParens'. -/
def parseParensCard : Claim7 := { stood := { row := parseParensRow, standIns := [], harness := (true, "d84cf5b7a913d9f58857ebacc9f92229e86dbc51f06dc7de35d9ead5b78caa2b"), looks := true }, kinds := [], alts := [], laidByText := true, laidKinds := [.widerDeep, .data], laidTests := true, laidLooks := .later }
def ParseParensCardSaid : Prop := Claim7.holds Tryd.pinned (.plain (OpenSpec.ofChange parseParensSpec)) parseParensCard

/-- THE SECOND FORM's CARD OF 'seedcornlaw15.ParseStrengths'. -/
def parseStrengthsUptoCard : Claim7 := { stood := { row := parseStrengthsUptoRow, standIns := [], harness := (true, "d84cf5b7a913d9f58857ebacc9f92229e86dbc51f06dc7de35d9ead5b78caa2b"), looks := true }, kinds := [], alts := [], laidByText := true, laidKinds := [.widerDeep, .data], laidTests := true, laidLooks := .later }
def ParseStrengthsUptoCardSaid : Prop := Claim7.holds Tryd.pinned (.plain (OpenSpec.upto parseStrengthsSpec)) parseStrengthsUptoCard

/-- THE SECOND FORM's CARD OF 'seedcornlaw13.TokenStands'. -/
def tokenStandsUptoCard : Claim7 := { stood := { row := tokenStandsUptoRow, standIns := [], harness := (true, "d84cf5b7a913d9f58857ebacc9f92229e86dbc51f06dc7de35d9ead5b78caa2b"), looks := true }, kinds := [], alts := [], laidByText := true, laidKinds := [.widerDeep, .data], laidTests := true, laidLooks := .later }
def TokenStandsUptoCardSaid : Prop := Claim7.holds Tryd.pinned (.plain (OpenSpec.upto tokenStandsSpec)) tokenStandsUptoCard

/-- THE SECOND FORM's CARD OF 'seedcornlaw15.ParseFront'. -/
def parseFrontUptoCard : Claim7 := { stood := { row := parseFrontUptoRow, standIns := [], harness := (true, "d84cf5b7a913d9f58857ebacc9f92229e86dbc51f06dc7de35d9ead5b78caa2b"), looks := true }, kinds := [], alts := [], laidByText := true, laidKinds := [.widerDeep, .data], laidTests := true, laidLooks := .later }
def ParseFrontUptoCardSaid : Prop := Claim7.holds Tryd.pinned (.plain (OpenSpec.upto parseFrontSpec)) parseFrontUptoCard

/-- THE SECOND FORM's CARD OF 'seedcornlaw13.TokenBack'. -/
def tokenBackUptoCard : Claim7 := { stood := { row := tokenBackUptoRow, standIns := [], harness := (true, "d84cf5b7a913d9f58857ebacc9f92229e86dbc51f06dc7de35d9ead5b78caa2b"), looks := true }, kinds := [], alts := [], laidByText := true, laidKinds := [.widerDeep, .data], laidTests := true, laidLooks := .later }
def TokenBackUptoCardSaid : Prop := Claim7.holds Tryd.pinned (.plain (OpenSpec.upto tokenBackSpec)) tokenBackUptoCard

/-- THE SECOND FORM's CARD OF 'seedcornlaw13.TokenCuts'. -/
def tokenCutsUptoCard : Claim7 := { stood := { row := tokenCutsUptoRow, standIns := [], harness := (true, "d84cf5b7a913d9f58857ebacc9f92229e86dbc51f06dc7de35d9ead5b78caa2b"), looks := true }, kinds := [], alts := [], laidByText := true, laidKinds := [.widerDeep, .data], laidTests := true, laidLooks := .later }
def TokenCutsUptoCardSaid : Prop := Claim7.holds Tryd.pinned (.plain (OpenSpec.upto tokenCutsSpec)) tokenCutsUptoCard

/-- THE SECOND FORM's CARD OF 'seedcornlaw13.TokenJoins'. -/
def tokenJoinsUptoCard : Claim7 := { stood := { row := tokenJoinsUptoRow, standIns := [], harness := (true, "d84cf5b7a913d9f58857ebacc9f92229e86dbc51f06dc7de35d9ead5b78caa2b"), looks := true }, kinds := [], alts := [], laidByText := true, laidKinds := [.widerDeep, .data], laidTests := true, laidLooks := .later }
def TokenJoinsUptoCardSaid : Prop := Claim7.holds Tryd.pinned (.plain (OpenSpec.upto tokenJoinsSpec)) tokenJoinsUptoCard

/-- THE SECOND FORM's CARD OF 'seedcornlaw13.TokenLongest'. -/
def tokenLongestUptoCard : Claim7 := { stood := { row := tokenLongestUptoRow, standIns := [], harness := (true, "d84cf5b7a913d9f58857ebacc9f92229e86dbc51f06dc7de35d9ead5b78caa2b"), looks := true }, kinds := [], alts := [], laidByText := true, laidKinds := [.widerDeep, .data], laidTests := true, laidLooks := .later }
def TokenLongestUptoCardSaid : Prop := Claim7.holds Tryd.pinned (.plain (OpenSpec.upto tokenLongestSpec)) tokenLongestUptoCard

/-- THE SECOND FORM's CARD OF 'seedcornlaw13.TokenNames'. -/
def tokenNamesUptoCard : Claim7 := { stood := { row := tokenNamesUptoRow, standIns := [], harness := (true, "d84cf5b7a913d9f58857ebacc9f92229e86dbc51f06dc7de35d9ead5b78caa2b"), looks := true }, kinds := [], alts := [], laidByText := true, laidKinds := [.widerDeep, .data], laidTests := true, laidLooks := .later }
def TokenNamesUptoCardSaid : Prop := Claim7.holds Tryd.pinned (.plain (OpenSpec.upto tokenNamesSpec)) tokenNamesUptoCard

/-- THE SECOND FORM's CARD OF 'seedcornlaw15.ParseBack'. -/
def parseBackUptoCard : Claim7 := { stood := { row := parseBackUptoRow, standIns := [], harness := (true, "d84cf5b7a913d9f58857ebacc9f92229e86dbc51f06dc7de35d9ead5b78caa2b"), looks := true }, kinds := [], alts := [], laidByText := true, laidKinds := [.widerDeep, .data], laidTests := true, laidLooks := .later }
def ParseBackUptoCardSaid : Prop := Claim7.holds Tryd.pinned (.plain (OpenSpec.upto parseBackSpec)) parseBackUptoCard

/-- THE SECOND FORM's CARD OF 'seedcornlaw15.ParseBlanks'. -/
def parseBlanksUptoCard : Claim7 := { stood := { row := parseBlanksUptoRow, standIns := [], harness := (true, "d84cf5b7a913d9f58857ebacc9f92229e86dbc51f06dc7de35d9ead5b78caa2b"), looks := true }, kinds := [], alts := [], laidByText := true, laidKinds := [.widerDeep, .data], laidTests := true, laidLooks := .later }
def ParseBlanksUptoCardSaid : Prop := Claim7.holds Tryd.pinned (.plain (OpenSpec.upto parseBlanksSpec)) parseBlanksUptoCard

/-- THE SECOND FORM's CARD OF 'seedcornlaw15.ParseParens'. -/
def parseParensUptoCard : Claim7 := { stood := { row := parseParensUptoRow, standIns := [], harness := (true, "d84cf5b7a913d9f58857ebacc9f92229e86dbc51f06dc7de35d9ead5b78caa2b"), looks := true }, kinds := [], alts := [], laidByText := true, laidKinds := [.widerDeep, .data], laidTests := true, laidLooks := .later }
def ParseParensUptoCardSaid : Prop := Claim7.holds Tryd.pinned (.plain (OpenSpec.upto parseParensSpec)) parseParensUptoCard
end Rows
end Go.Proofs.YtakbpbifgemcdaaDoor
