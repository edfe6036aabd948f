/-
  DERIVED. GIVEN WITH THE SEED: THE CARDS: each row of YtpodfmnnabepaaaDoorRows.lean that lists a variable, with what it lists TIED to the program's text (the seventh form; the later family's looks); each row that meets fmt, with fmt's text TOLD by the authors' own Lean function (tested against real Go, not proved from fmt's source: count such statements apart). THE CARD IS WHAT COUNTS. Prove the row's statement (the work); the ties are given (YtpodfmnnabepaaaDoorTie.lean); close each card by the builder's one call (the guide's Derived/Test/ToyasCard.lean, 'card_holds'). Laid BY PROGRAM, IN A SANDBOX (cutbox-door.mjs). By AI agents, Wed Nov 11 2026. No macro, syntax, notation, axiom, sorry.
-/
import Derived.Test.YtpodfmnnabepaaaDoorRows
import GoSem.ClaimSeven
namespace Go.Proofs.YtpodfmnnabepaaaDoor
namespace Rows

/-- THE TIED CARD OF 'seedcornlaw05.OnetimeSteps'. -/
def onetimeStepsCard : Claim7 := { stood := { row := onetimeStepsRow, standIns := [], harness := (true, "c3c52f4f4f809bbca110d0149b10593e80f9ec098c59ea68e09b02632895fec7"), looks := false }, kinds := [], alts := [], laidByText := true, laidKinds := [.data], laidTests := true, laidLooks := .later }
def OnetimeStepsCardSaid : Prop := Claim7.holds Tryd.pinned (.plain (OpenSpec.ofChange onetimeStepsSpec)) onetimeStepsCard

/-- THE TIED CARD OF 'seedcornlaw05.OnetimeKeys'. -/
def onetimeKeysCard : Claim7 := { stood := { row := onetimeKeysRow, standIns := [], harness := (true, "c3c52f4f4f809bbca110d0149b10593e80f9ec098c59ea68e09b02632895fec7"), looks := false }, kinds := [], alts := [], laidByText := true, laidKinds := [.data], laidTests := true, laidLooks := .later }
def OnetimeKeysCardSaid : Prop := Claim7.holds Tryd.pinned (.plain (OpenSpec.ofChange onetimeKeysSpec)) onetimeKeysCard

/-- THE TIED CARD OF 'seedcornlaw05.OnetimeHolds'. -/
def onetimeHoldsCard : Claim7 := { stood := { row := onetimeHoldsRow, standIns := [], harness := (true, "c3c52f4f4f809bbca110d0149b10593e80f9ec098c59ea68e09b02632895fec7"), looks := false }, kinds := [], alts := [], laidByText := true, laidKinds := [.data], laidTests := true, laidLooks := .later }
def OnetimeHoldsCardSaid : Prop := Claim7.holds Tryd.pinned (.plain (OpenSpec.ofChange onetimeHoldsSpec)) onetimeHoldsCard

/-- THE TIED CARD OF 'seedcornlaw05.OnetimeReaches'. -/
def onetimeReachesCard : Claim7 := { stood := { row := onetimeReachesRow, standIns := [], harness := (true, "c3c52f4f4f809bbca110d0149b10593e80f9ec098c59ea68e09b02632895fec7"), looks := false }, kinds := [], alts := [], laidByText := true, laidKinds := [.data], laidTests := true, laidLooks := .later }
def OnetimeReachesCardSaid : Prop := Claim7.holds Tryd.pinned (.plain (OpenSpec.ofChange onetimeReachesSpec)) onetimeReachesCard

/-- THE TIED CARD OF 'seedcornlaw05.OnetimeUnlike'. -/
def onetimeUnlikeCard : Claim7 := { stood := { row := onetimeUnlikeRow, standIns := [], harness := (true, "c3c52f4f4f809bbca110d0149b10593e80f9ec098c59ea68e09b02632895fec7"), looks := false }, kinds := [], alts := [], laidByText := true, laidKinds := [.data], laidTests := true, laidLooks := .later }
def OnetimeUnlikeCardSaid : Prop := Claim7.holds Tryd.pinned (.plain (OpenSpec.ofChange onetimeUnlikeSpec)) onetimeUnlikeCard

/-- THE TIED CARD OF 'seedcornlaw05.OnetimeGives'. -/
def onetimeGivesCard : Claim7 := { stood := { row := onetimeGivesRow, standIns := [], harness := (true, "c3c52f4f4f809bbca110d0149b10593e80f9ec098c59ea68e09b02632895fec7"), looks := false }, kinds := [], alts := [], laidByText := true, laidKinds := [.data], laidTests := true, laidLooks := .later }
def OnetimeGivesCardSaid : Prop := Claim7.holds Tryd.pinned (.plain (OpenSpec.ofChange onetimeGivesSpec)) onetimeGivesCard

/-- THE TIED CARD OF 'seedcornlaw05.OnetimeAhead'. -/
def onetimeAheadCard : Claim7 := { stood := { row := onetimeAheadRow, standIns := [], harness := (true, "c3c52f4f4f809bbca110d0149b10593e80f9ec098c59ea68e09b02632895fec7"), looks := false }, kinds := [], alts := [], laidByText := true, laidKinds := [.data], laidTests := true, laidLooks := .later }
def OnetimeAheadCardSaid : Prop := Claim7.holds Tryd.pinned (.plain (OpenSpec.ofChange onetimeAheadSpec)) onetimeAheadCard

/-- THE TIED CARD OF 'seedcornlaw45.QuorumRights'. -/
def quorumRightsCard : Claim7 := { stood := { row := quorumRightsRow, standIns := [], harness := (true, "c3c52f4f4f809bbca110d0149b10593e80f9ec098c59ea68e09b02632895fec7"), looks := false }, kinds := [], alts := [], laidByText := true, laidKinds := [.data], laidTests := true, laidLooks := .later }
def QuorumRightsCardSaid : Prop := Claim7.holds Tryd.pinned (.plain (OpenSpec.ofChange quorumRightsSpec)) quorumRightsCard

/-- THE TIED CARD OF 'seedcornlaw45.QuorumTells'. -/
def quorumTellsCard : Claim7 := { stood := { row := quorumTellsRow, standIns := [], harness := (true, "c3c52f4f4f809bbca110d0149b10593e80f9ec098c59ea68e09b02632895fec7"), looks := false }, kinds := [], alts := [], laidByText := true, laidKinds := [.data], laidTests := true, laidLooks := .later }
def QuorumTellsCardSaid : Prop := Claim7.holds Tryd.pinned (.plain (OpenSpec.ofChange quorumTellsSpec)) quorumTellsCard

/-- THE TIED CARD OF 'seedcornlaw45.QuorumFew'. -/
def quorumFewCard : Claim7 := { stood := { row := quorumFewRow, standIns := [], harness := (true, "c3c52f4f4f809bbca110d0149b10593e80f9ec098c59ea68e09b02632895fec7"), looks := false }, kinds := [], alts := [], laidByText := true, laidKinds := [.data], laidTests := true, laidLooks := .later }
def QuorumFewCardSaid : Prop := Claim7.holds Tryd.pinned (.plain (OpenSpec.ofChange quorumFewSpec)) quorumFewCard

/-- THE TIED CARD OF 'seedcornlaw45.QuorumMore'. -/
def quorumMoreCard : Claim7 := { stood := { row := quorumMoreRow, standIns := [], harness := (true, "c3c52f4f4f809bbca110d0149b10593e80f9ec098c59ea68e09b02632895fec7"), looks := false }, kinds := [], alts := [], laidByText := true, laidKinds := [.data], laidTests := true, laidLooks := .later }
def QuorumMoreCardSaid : Prop := Claim7.holds Tryd.pinned (.plain (OpenSpec.ofChange quorumMoreSpec)) quorumMoreCard

/-- THE TIED CARD OF 'seedcornlaw45.QuorumDoes'. -/
def quorumDoesCard : Claim7 := { stood := { row := quorumDoesRow, standIns := [], harness := (true, "c3c52f4f4f809bbca110d0149b10593e80f9ec098c59ea68e09b02632895fec7"), looks := false }, kinds := [], alts := [], laidByText := true, laidKinds := [.data], laidTests := true, laidLooks := .later }
def QuorumDoesCardSaid : Prop := Claim7.holds Tryd.pinned (.plain (OpenSpec.ofChange quorumDoesSpec)) quorumDoesCard

/-- THE TIED CARD OF 'seedcornlaw45.QuorumHonest'. -/
def quorumHonestCard : Claim7 := { stood := { row := quorumHonestRow, standIns := [], harness := (true, "c3c52f4f4f809bbca110d0149b10593e80f9ec098c59ea68e09b02632895fec7"), looks := false }, kinds := [], alts := [], laidByText := true, laidKinds := [.data], laidTests := true, laidLooks := .later }
def QuorumHonestCardSaid : Prop := Claim7.holds Tryd.pinned (.plain (OpenSpec.ofChange quorumHonestSpec)) quorumHonestCard

/-- THE TIED CARD OF 'seedcornlaw45.QuorumMeets'. -/
def quorumMeetsCard : Claim7 := { stood := { row := quorumMeetsRow, standIns := [], harness := (true, "c3c52f4f4f809bbca110d0149b10593e80f9ec098c59ea68e09b02632895fec7"), looks := false }, kinds := [], alts := [], laidByText := true, laidKinds := [.data], laidTests := true, laidLooks := .later }
def QuorumMeetsCardSaid : Prop := Claim7.holds Tryd.pinned (.plain (OpenSpec.ofChange quorumMeetsSpec)) quorumMeetsCard

/-- THE SECOND FORM's CARD OF 'seedcornlaw05.OnetimeSteps'. -/
def onetimeStepsUptoCard : Claim7 := { stood := { row := onetimeStepsUptoRow, standIns := [], harness := (true, "c3c52f4f4f809bbca110d0149b10593e80f9ec098c59ea68e09b02632895fec7"), looks := false }, kinds := [], alts := [], laidByText := true, laidKinds := [.data], laidTests := true, laidLooks := .later }
def OnetimeStepsUptoCardSaid : Prop := Claim7.holds Tryd.pinned (.plain (OpenSpec.upto onetimeStepsSpec)) onetimeStepsUptoCard

/-- THE SECOND FORM's CARD OF 'seedcornlaw05.OnetimeKeys'. -/
def onetimeKeysUptoCard : Claim7 := { stood := { row := onetimeKeysUptoRow, standIns := [], harness := (true, "c3c52f4f4f809bbca110d0149b10593e80f9ec098c59ea68e09b02632895fec7"), looks := false }, kinds := [], alts := [], laidByText := true, laidKinds := [.data], laidTests := true, laidLooks := .later }
def OnetimeKeysUptoCardSaid : Prop := Claim7.holds Tryd.pinned (.plain (OpenSpec.upto onetimeKeysSpec)) onetimeKeysUptoCard

/-- THE SECOND FORM's CARD OF 'seedcornlaw05.OnetimeHolds'. -/
def onetimeHoldsUptoCard : Claim7 := { stood := { row := onetimeHoldsUptoRow, standIns := [], harness := (true, "c3c52f4f4f809bbca110d0149b10593e80f9ec098c59ea68e09b02632895fec7"), looks := false }, kinds := [], alts := [], laidByText := true, laidKinds := [.data], laidTests := true, laidLooks := .later }
def OnetimeHoldsUptoCardSaid : Prop := Claim7.holds Tryd.pinned (.plain (OpenSpec.upto onetimeHoldsSpec)) onetimeHoldsUptoCard

/-- THE SECOND FORM's CARD OF 'seedcornlaw05.OnetimeReaches'. -/
def onetimeReachesUptoCard : Claim7 := { stood := { row := onetimeReachesUptoRow, standIns := [], harness := (true, "c3c52f4f4f809bbca110d0149b10593e80f9ec098c59ea68e09b02632895fec7"), looks := false }, kinds := [], alts := [], laidByText := true, laidKinds := [.data], laidTests := true, laidLooks := .later }
def OnetimeReachesUptoCardSaid : Prop := Claim7.holds Tryd.pinned (.plain (OpenSpec.upto onetimeReachesSpec)) onetimeReachesUptoCard

/-- THE SECOND FORM's CARD OF 'seedcornlaw05.OnetimeUnlike'. -/
def onetimeUnlikeUptoCard : Claim7 := { stood := { row := onetimeUnlikeUptoRow, standIns := [], harness := (true, "c3c52f4f4f809bbca110d0149b10593e80f9ec098c59ea68e09b02632895fec7"), looks := false }, kinds := [], alts := [], laidByText := true, laidKinds := [.data], laidTests := true, laidLooks := .later }
def OnetimeUnlikeUptoCardSaid : Prop := Claim7.holds Tryd.pinned (.plain (OpenSpec.upto onetimeUnlikeSpec)) onetimeUnlikeUptoCard

/-- THE SECOND FORM's CARD OF 'seedcornlaw05.OnetimeGives'. -/
def onetimeGivesUptoCard : Claim7 := { stood := { row := onetimeGivesUptoRow, standIns := [], harness := (true, "c3c52f4f4f809bbca110d0149b10593e80f9ec098c59ea68e09b02632895fec7"), looks := false }, kinds := [], alts := [], laidByText := true, laidKinds := [.data], laidTests := true, laidLooks := .later }
def OnetimeGivesUptoCardSaid : Prop := Claim7.holds Tryd.pinned (.plain (OpenSpec.upto onetimeGivesSpec)) onetimeGivesUptoCard

/-- THE SECOND FORM's CARD OF 'seedcornlaw05.OnetimeAhead'. -/
def onetimeAheadUptoCard : Claim7 := { stood := { row := onetimeAheadUptoRow, standIns := [], harness := (true, "c3c52f4f4f809bbca110d0149b10593e80f9ec098c59ea68e09b02632895fec7"), looks := false }, kinds := [], alts := [], laidByText := true, laidKinds := [.data], laidTests := true, laidLooks := .later }
def OnetimeAheadUptoCardSaid : Prop := Claim7.holds Tryd.pinned (.plain (OpenSpec.upto onetimeAheadSpec)) onetimeAheadUptoCard

/-- THE SECOND FORM's CARD OF 'seedcornlaw45.QuorumRights'. -/
def quorumRightsUptoCard : Claim7 := { stood := { row := quorumRightsUptoRow, standIns := [], harness := (true, "c3c52f4f4f809bbca110d0149b10593e80f9ec098c59ea68e09b02632895fec7"), looks := false }, kinds := [], alts := [], laidByText := true, laidKinds := [.data], laidTests := true, laidLooks := .later }
def QuorumRightsUptoCardSaid : Prop := Claim7.holds Tryd.pinned (.plain (OpenSpec.upto quorumRightsSpec)) quorumRightsUptoCard

/-- THE SECOND FORM's CARD OF 'seedcornlaw45.QuorumTells'. -/
def quorumTellsUptoCard : Claim7 := { stood := { row := quorumTellsUptoRow, standIns := [], harness := (true, "c3c52f4f4f809bbca110d0149b10593e80f9ec098c59ea68e09b02632895fec7"), looks := false }, kinds := [], alts := [], laidByText := true, laidKinds := [.data], laidTests := true, laidLooks := .later }
def QuorumTellsUptoCardSaid : Prop := Claim7.holds Tryd.pinned (.plain (OpenSpec.upto quorumTellsSpec)) quorumTellsUptoCard

/-- THE SECOND FORM's CARD OF 'seedcornlaw45.QuorumFew'. -/
def quorumFewUptoCard : Claim7 := { stood := { row := quorumFewUptoRow, standIns := [], harness := (true, "c3c52f4f4f809bbca110d0149b10593e80f9ec098c59ea68e09b02632895fec7"), looks := false }, kinds := [], alts := [], laidByText := true, laidKinds := [.data], laidTests := true, laidLooks := .later }
def QuorumFewUptoCardSaid : Prop := Claim7.holds Tryd.pinned (.plain (OpenSpec.upto quorumFewSpec)) quorumFewUptoCard

/-- THE SECOND FORM's CARD OF 'seedcornlaw45.QuorumMore'. -/
def quorumMoreUptoCard : Claim7 := { stood := { row := quorumMoreUptoRow, standIns := [], harness := (true, "c3c52f4f4f809bbca110d0149b10593e80f9ec098c59ea68e09b02632895fec7"), looks := false }, kinds := [], alts := [], laidByText := true, laidKinds := [.data], laidTests := true, laidLooks := .later }
def QuorumMoreUptoCardSaid : Prop := Claim7.holds Tryd.pinned (.plain (OpenSpec.upto quorumMoreSpec)) quorumMoreUptoCard

/-- THE SECOND FORM's CARD OF 'seedcornlaw45.QuorumDoes'. -/
def quorumDoesUptoCard : Claim7 := { stood := { row := quorumDoesUptoRow, standIns := [], harness := (true, "c3c52f4f4f809bbca110d0149b10593e80f9ec098c59ea68e09b02632895fec7"), looks := false }, kinds := [], alts := [], laidByText := true, laidKinds := [.data], laidTests := true, laidLooks := .later }
def QuorumDoesUptoCardSaid : Prop := Claim7.holds Tryd.pinned (.plain (OpenSpec.upto quorumDoesSpec)) quorumDoesUptoCard

/-- THE SECOND FORM's CARD OF 'seedcornlaw45.QuorumHonest'. -/
def quorumHonestUptoCard : Claim7 := { stood := { row := quorumHonestUptoRow, standIns := [], harness := (true, "c3c52f4f4f809bbca110d0149b10593e80f9ec098c59ea68e09b02632895fec7"), looks := false }, kinds := [], alts := [], laidByText := true, laidKinds := [.data], laidTests := true, laidLooks := .later }
def QuorumHonestUptoCardSaid : Prop := Claim7.holds Tryd.pinned (.plain (OpenSpec.upto quorumHonestSpec)) quorumHonestUptoCard

/-- THE SECOND FORM's CARD OF 'seedcornlaw45.QuorumMeets'. -/
def quorumMeetsUptoCard : Claim7 := { stood := { row := quorumMeetsUptoRow, standIns := [], harness := (true, "c3c52f4f4f809bbca110d0149b10593e80f9ec098c59ea68e09b02632895fec7"), looks := false }, kinds := [], alts := [], laidByText := true, laidKinds := [.data], laidTests := true, laidLooks := .later }
def QuorumMeetsUptoCardSaid : Prop := Claim7.holds Tryd.pinned (.plain (OpenSpec.upto quorumMeetsSpec)) quorumMeetsUptoCard
end Rows
end Go.Proofs.YtpodfmnnabepaaaDoor
