/-
  DERIVED. GIVEN WITH THE SEED: THE CARDS: each row of YtocmnhjgknaocaaDoorRows.lean that lists a variable, with what it lists TIED to the program's text (the seventh form; the later family's looks); each row that meets fmt, with fmt's text TOLD by the authors' own Lean function (tested against real Go, not proved from fmt's source: count such statements apart). THE CARD IS WHAT COUNTS. Prove the row's statement (the work); the ties are given (YtocmnhjgknaocaaDoorTie.lean); close each card by the builder's one call (the guide's Derived/Test/ToyasCard.lean, 'card_holds'). Laid BY PROGRAM, IN A SANDBOX (cutbox-door.mjs). By AI agents, Wed Nov 11 2026. No macro, syntax, notation, axiom, sorry.
-/
import Derived.Test.YtocmnhjgknaocaaDoorRows
import GoSem.ClaimSeven
namespace Go.Proofs.YtocmnhjgknaocaaDoor
namespace Rows

/-- THE TIED CARD OF 'tumbrellaw15.SeglogCut'. -/
def seglogCutCard : Claim7 := { stood := { row := seglogCutRow, standIns := [], harness := (true, "e0945dc8ad055489ae94a5f26ba803d447bf78e1d388a9f36cd0165839d11277"), looks := true }, kinds := [], alts := [], laidByText := true, laidKinds := [.data, .data, .data], laidTests := true, laidLooks := .later }
def SeglogCutCardSaid : Prop := Claim7.holds Tryd.pinned (.plain (OpenSpec.ofChange seglogCutSpec)) seglogCutCard

/-- THE TIED CARD OF 'tumbrellaw17.EventsOnce'. -/
def eventsOnceCard : Claim7 := { stood := { row := eventsOnceRow, standIns := [], harness := (true, "e0945dc8ad055489ae94a5f26ba803d447bf78e1d388a9f36cd0165839d11277"), looks := true }, kinds := [], alts := [], laidByText := true, laidKinds := [.data, .data, .data], laidTests := true, laidLooks := .later }
def EventsOnceCardSaid : Prop := Claim7.holds Tryd.pinned (.plain (OpenSpec.ofChange eventsOnceSpec)) eventsOnceCard

/-- THE TIED CARD OF 'tumbrellaw17.EventsTurned'. -/
def eventsTurnedCard : Claim7 := { stood := { row := eventsTurnedRow, standIns := [], harness := (true, "e0945dc8ad055489ae94a5f26ba803d447bf78e1d388a9f36cd0165839d11277"), looks := true }, kinds := [], alts := [], laidByText := true, laidKinds := [.data, .data, .data], laidTests := true, laidLooks := .later }
def EventsTurnedCardSaid : Prop := Claim7.holds Tryd.pinned (.plain (OpenSpec.ofChange eventsTurnedSpec)) eventsTurnedCard

/-- THE TIED CARD OF 'tumbrellaw14.NameTells'. -/
def nameTellsCard : Claim7 := { stood := { row := nameTellsRow, standIns := [], harness := (true, "e0945dc8ad055489ae94a5f26ba803d447bf78e1d388a9f36cd0165839d11277"), looks := true }, kinds := [], alts := [], laidByText := true, laidKinds := [.data, .data, .data, .sentinel, .sentinel], laidTests := true, laidLooks := .later }
def NameTellsCardSaid : Prop := Claim7.holds Tryd.pinned (.plain (OpenSpec.ofChange nameTellsSpec)) nameTellsCard

/-- THE TIED CARD OF 'tumbrellaw14.NameUnlike'. -/
def nameUnlikeCard : Claim7 := { stood := { row := nameUnlikeRow, standIns := [], harness := (true, "e0945dc8ad055489ae94a5f26ba803d447bf78e1d388a9f36cd0165839d11277"), looks := true }, kinds := [], alts := [], laidByText := true, laidKinds := [.data, .data, .data, .sentinel, .sentinel], laidTests := true, laidLooks := .later }
def NameUnlikeCardSaid : Prop := Claim7.holds Tryd.pinned (.plain (OpenSpec.ofChange nameUnlikeSpec)) nameUnlikeCard

/-- THE TIED CARD OF 'tumbrellaw14.NameBack'. -/
def nameBackCard : Claim7 := { stood := { row := nameBackRow, standIns := [], harness := (true, "e0945dc8ad055489ae94a5f26ba803d447bf78e1d388a9f36cd0165839d11277"), looks := true }, kinds := [], alts := [], laidByText := true, laidKinds := [.data, .data, .data, .sentinel, .sentinel], laidTests := true, laidLooks := .later }
def NameBackCardSaid : Prop := Claim7.holds Tryd.pinned (.plain (OpenSpec.ofChange nameBackSpec)) nameBackCard

/-- THE SECOND FORM's CARD OF 'tumbrellaw15.SeglogCut'. -/
def seglogCutUptoCard : Claim7 := { stood := { row := seglogCutUptoRow, standIns := [], harness := (true, "e0945dc8ad055489ae94a5f26ba803d447bf78e1d388a9f36cd0165839d11277"), looks := true }, kinds := [], alts := [], laidByText := true, laidKinds := [.data, .data, .data], laidTests := true, laidLooks := .later }
def SeglogCutUptoCardSaid : Prop := Claim7.holds Tryd.pinned (.plain (OpenSpec.upto seglogCutSpec)) seglogCutUptoCard

/-- THE SECOND FORM's CARD OF 'tumbrellaw17.EventsOnce'. -/
def eventsOnceUptoCard : Claim7 := { stood := { row := eventsOnceUptoRow, standIns := [], harness := (true, "e0945dc8ad055489ae94a5f26ba803d447bf78e1d388a9f36cd0165839d11277"), looks := true }, kinds := [], alts := [], laidByText := true, laidKinds := [.data, .data, .data], laidTests := true, laidLooks := .later }
def EventsOnceUptoCardSaid : Prop := Claim7.holds Tryd.pinned (.plain (OpenSpec.upto eventsOnceSpec)) eventsOnceUptoCard

/-- THE SECOND FORM's CARD OF 'tumbrellaw17.EventsTurned'. -/
def eventsTurnedUptoCard : Claim7 := { stood := { row := eventsTurnedUptoRow, standIns := [], harness := (true, "e0945dc8ad055489ae94a5f26ba803d447bf78e1d388a9f36cd0165839d11277"), looks := true }, kinds := [], alts := [], laidByText := true, laidKinds := [.data, .data, .data], laidTests := true, laidLooks := .later }
def EventsTurnedUptoCardSaid : Prop := Claim7.holds Tryd.pinned (.plain (OpenSpec.upto eventsTurnedSpec)) eventsTurnedUptoCard

/-- THE SECOND FORM's CARD OF 'tumbrellaw14.NameTells'. -/
def nameTellsUptoCard : Claim7 := { stood := { row := nameTellsUptoRow, standIns := [], harness := (true, "e0945dc8ad055489ae94a5f26ba803d447bf78e1d388a9f36cd0165839d11277"), looks := true }, kinds := [], alts := [], laidByText := true, laidKinds := [.data, .data, .data, .sentinel, .sentinel], laidTests := true, laidLooks := .later }
def NameTellsUptoCardSaid : Prop := Claim7.holds Tryd.pinned (.plain (OpenSpec.upto nameTellsSpec)) nameTellsUptoCard

/-- THE SECOND FORM's CARD OF 'tumbrellaw14.NameUnlike'. -/
def nameUnlikeUptoCard : Claim7 := { stood := { row := nameUnlikeUptoRow, standIns := [], harness := (true, "e0945dc8ad055489ae94a5f26ba803d447bf78e1d388a9f36cd0165839d11277"), looks := true }, kinds := [], alts := [], laidByText := true, laidKinds := [.data, .data, .data, .sentinel, .sentinel], laidTests := true, laidLooks := .later }
def NameUnlikeUptoCardSaid : Prop := Claim7.holds Tryd.pinned (.plain (OpenSpec.upto nameUnlikeSpec)) nameUnlikeUptoCard

/-- THE SECOND FORM's CARD OF 'tumbrellaw14.NameBack'. -/
def nameBackUptoCard : Claim7 := { stood := { row := nameBackUptoRow, standIns := [], harness := (true, "e0945dc8ad055489ae94a5f26ba803d447bf78e1d388a9f36cd0165839d11277"), looks := true }, kinds := [], alts := [], laidByText := true, laidKinds := [.data, .data, .data, .sentinel, .sentinel], laidTests := true, laidLooks := .later }
def NameBackUptoCardSaid : Prop := Claim7.holds Tryd.pinned (.plain (OpenSpec.upto nameBackSpec)) nameBackUptoCard
end Rows
end Go.Proofs.YtocmnhjgknaocaaDoor
