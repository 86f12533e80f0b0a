/-
  DERIVED. GIVEN WITH THE SEED: THE CARDS: each row of YtkeialdhogfdjaaDoorRows.lean that lists a variable, with what it lists TIED to the program's text (the seventh form; the later family's looks); each row that meets fmt, with fmt's text TOLD by the authors' own Lean function (tested against real Go, not proved from fmt's source: count such statements apart). THE CARD IS WHAT COUNTS. Prove the row's statement (the work); the ties are given (YtkeialdhogfdjaaDoorTie.lean); close each card by the builder's one call (the guide's Derived/Test/ToyasCard.lean, 'card_holds'). Laid BY PROGRAM, IN A SANDBOX (cutbox-door.mjs). By AI agents, Wed Nov 11 2026. No macro, syntax, notation, axiom, sorry.
-/
import Derived.Test.YtkeialdhogfdjaaDoorRows
import GoSem.ClaimSeven
namespace Go.Proofs.YtkeialdhogfdjaaDoor
namespace Rows

/-- THE TIED CARD OF 'linkboylaw05.NamesKeys'. -/
def namesKeysCard : Claim7 := { stood := { row := namesKeysRow, standIns := [], harness := (true, "9d7be72ee761d7e0f2e0358add042c8931c3b2e6a932393e0fe517d3eb68ed37"), looks := true }, kinds := [], alts := [], laidByText := true, laidKinds := [.data, .sentinel, .sentinel, .sentinel, .sentinel, .sentinel, .sentinel, .sentinel, .sentinel, .sentinel, .sentinel, .sentinel, .sentinel, .sentinel, .sentinel, .sentinel, .sentinel, .sentinel, .sentinel, .pinned], laidTests := true, laidLooks := .later }
def NamesKeysCardSaid : Prop := Claim7.holds Tryd.pinned (.plain (OpenSpec.ofChange namesKeysSpec)) namesKeysCard

/-- THE TIED CARD OF 'linkboylaw05.NamesSorts'. -/
def namesSortsCard : Claim7 := { stood := { row := namesSortsRow, standIns := [], harness := (true, "9d7be72ee761d7e0f2e0358add042c8931c3b2e6a932393e0fe517d3eb68ed37"), looks := true }, kinds := [], alts := [], laidByText := true, laidKinds := [.data, .sentinel, .pinned], laidTests := true, laidLooks := .later }
def NamesSortsCardSaid : Prop := Claim7.holds Tryd.pinned (.plain (OpenSpec.ofChange namesSortsSpec)) namesSortsCard

/-- THE SECOND FORM's CARD OF 'linkboylaw05.NamesKeys'. -/
def namesKeysUptoCard : Claim7 := { stood := { row := namesKeysUptoRow, standIns := [], harness := (true, "9d7be72ee761d7e0f2e0358add042c8931c3b2e6a932393e0fe517d3eb68ed37"), looks := true }, kinds := [], alts := [], laidByText := true, laidKinds := [.data, .sentinel, .sentinel, .sentinel, .sentinel, .sentinel, .sentinel, .sentinel, .sentinel, .sentinel, .sentinel, .sentinel, .sentinel, .sentinel, .sentinel, .sentinel, .sentinel, .sentinel, .sentinel, .pinned], laidTests := true, laidLooks := .later }
def NamesKeysUptoCardSaid : Prop := Claim7.holds Tryd.pinned (.plain (OpenSpec.upto namesKeysSpec)) namesKeysUptoCard

/-- THE SECOND FORM's CARD OF 'linkboylaw05.NamesSorts'. -/
def namesSortsUptoCard : Claim7 := { stood := { row := namesSortsUptoRow, standIns := [], harness := (true, "9d7be72ee761d7e0f2e0358add042c8931c3b2e6a932393e0fe517d3eb68ed37"), looks := true }, kinds := [], alts := [], laidByText := true, laidKinds := [.data, .sentinel, .pinned], laidTests := true, laidLooks := .later }
def NamesSortsUptoCardSaid : Prop := Claim7.holds Tryd.pinned (.plain (OpenSpec.upto namesSortsSpec)) namesSortsUptoCard
end Rows
end Go.Proofs.YtkeialdhogfdjaaDoor
