/-
  DERIVED. GIVEN WITH THE SEED: THE CARDS: each row of YtapemeboobcgmaaDoorRows.lean that lists a variable, with what it lists TIED to the program's text (the seventh form; the later family's looks); each row that meets fmt, with fmt's text TOLD by the authors' own Lean function (tested against real Go, not proved from fmt's source: count such statements apart). THE CARD IS WHAT COUNTS. Prove the row's statement (the work); the ties are given (YtapemeboobcgmaaDoorTie.lean); close each card by the builder's one call (the guide's Derived/Test/ToyasCard.lean, 'card_holds'). Laid BY PROGRAM, IN A SANDBOX (cutbox-door.mjs). By AI agents, Wed Nov 11 2026. No macro, syntax, notation, axiom, sorry.
-/
import Derived.Test.YtapemeboobcgmaaDoorRows
import GoSem.ClaimSeven
namespace Go.Proofs.YtapemeboobcgmaaDoor
namespace Rows

/-- THE TIED CARD OF 'trommellaw10.SpanPlays'. -/
def spanPlaysCard : Claim7 := { stood := { row := spanPlaysRow, standIns := [], harness := (true, "1d9e97a40ae204e354122d7356e08f203016709c2e82a01d97713b1abaf5c036"), looks := false }, kinds := [], alts := [], laidByText := true, laidKinds := [.data], laidTests := true, laidLooks := .later }
def SpanPlaysCardSaid : Prop := Claim7.holds Tryd.pinned (.plain (OpenSpec.ofChange spanPlaysSpec)) spanPlaysCard

/-- THE TIED CARD OF 'trommellaw10.SpanLists'. -/
def spanListsCard : Claim7 := { stood := { row := spanListsRow, standIns := [], harness := (true, "1d9e97a40ae204e354122d7356e08f203016709c2e82a01d97713b1abaf5c036"), looks := false }, kinds := [], alts := [], laidByText := true, laidKinds := [.data], laidTests := true, laidLooks := .later }
def SpanListsCardSaid : Prop := Claim7.holds Tryd.pinned (.plain (OpenSpec.ofChange spanListsSpec)) spanListsCard

/-- THE TIED CARD OF 'trommellaw10.SpanCovers'. -/
def spanCoversCard : Claim7 := { stood := { row := spanCoversRow, standIns := [], harness := (true, "1d9e97a40ae204e354122d7356e08f203016709c2e82a01d97713b1abaf5c036"), looks := false }, kinds := [], alts := [], laidByText := true, laidKinds := [.data], laidTests := true, laidLooks := .later }
def SpanCoversCardSaid : Prop := Claim7.holds Tryd.pinned (.plain (OpenSpec.ofChange spanCoversSpec)) spanCoversCard

/-- THE TIED CARD OF 'trommellaw10.SpanStabs'. -/
def spanStabsCard : Claim7 := { stood := { row := spanStabsRow, standIns := [], harness := (true, "1d9e97a40ae204e354122d7356e08f203016709c2e82a01d97713b1abaf5c036"), looks := false }, kinds := [], alts := [], laidByText := true, laidKinds := [.data], laidTests := true, laidLooks := .later }
def SpanStabsCardSaid : Prop := Claim7.holds Tryd.pinned (.plain (OpenSpec.ofChange spanStabsSpec)) spanStabsCard

/-- THE TIED CARD OF 'trommellaw10.SpanMeets'. -/
def spanMeetsCard : Claim7 := { stood := { row := spanMeetsRow, standIns := [], harness := (true, "1d9e97a40ae204e354122d7356e08f203016709c2e82a01d97713b1abaf5c036"), looks := false }, kinds := [], alts := [], laidByText := true, laidKinds := [.data], laidTests := true, laidLooks := .later }
def SpanMeetsCardSaid : Prop := Claim7.holds Tryd.pinned (.plain (OpenSpec.ofChange spanMeetsSpec)) spanMeetsCard

/-- THE TIED CARD OF 'trommellaw10.SpanCommons'. -/
def spanCommonsCard : Claim7 := { stood := { row := spanCommonsRow, standIns := [], harness := (true, "1d9e97a40ae204e354122d7356e08f203016709c2e82a01d97713b1abaf5c036"), looks := false }, kinds := [], alts := [], laidByText := true, laidKinds := [.data], laidTests := true, laidLooks := .later }
def SpanCommonsCardSaid : Prop := Claim7.holds Tryd.pinned (.plain (OpenSpec.ofChange spanCommonsSpec)) spanCommonsCard

/-- THE SECOND FORM's CARD OF 'trommellaw10.SpanPlays'. -/
def spanPlaysUptoCard : Claim7 := { stood := { row := spanPlaysUptoRow, standIns := [], harness := (true, "1d9e97a40ae204e354122d7356e08f203016709c2e82a01d97713b1abaf5c036"), looks := false }, kinds := [], alts := [], laidByText := true, laidKinds := [.data], laidTests := true, laidLooks := .later }
def SpanPlaysUptoCardSaid : Prop := Claim7.holds Tryd.pinned (.plain (OpenSpec.upto spanPlaysSpec)) spanPlaysUptoCard

/-- THE SECOND FORM's CARD OF 'trommellaw10.SpanLists'. -/
def spanListsUptoCard : Claim7 := { stood := { row := spanListsUptoRow, standIns := [], harness := (true, "1d9e97a40ae204e354122d7356e08f203016709c2e82a01d97713b1abaf5c036"), looks := false }, kinds := [], alts := [], laidByText := true, laidKinds := [.data], laidTests := true, laidLooks := .later }
def SpanListsUptoCardSaid : Prop := Claim7.holds Tryd.pinned (.plain (OpenSpec.upto spanListsSpec)) spanListsUptoCard

/-- THE SECOND FORM's CARD OF 'trommellaw10.SpanCovers'. -/
def spanCoversUptoCard : Claim7 := { stood := { row := spanCoversUptoRow, standIns := [], harness := (true, "1d9e97a40ae204e354122d7356e08f203016709c2e82a01d97713b1abaf5c036"), looks := false }, kinds := [], alts := [], laidByText := true, laidKinds := [.data], laidTests := true, laidLooks := .later }
def SpanCoversUptoCardSaid : Prop := Claim7.holds Tryd.pinned (.plain (OpenSpec.upto spanCoversSpec)) spanCoversUptoCard

/-- THE SECOND FORM's CARD OF 'trommellaw10.SpanStabs'. -/
def spanStabsUptoCard : Claim7 := { stood := { row := spanStabsUptoRow, standIns := [], harness := (true, "1d9e97a40ae204e354122d7356e08f203016709c2e82a01d97713b1abaf5c036"), looks := false }, kinds := [], alts := [], laidByText := true, laidKinds := [.data], laidTests := true, laidLooks := .later }
def SpanStabsUptoCardSaid : Prop := Claim7.holds Tryd.pinned (.plain (OpenSpec.upto spanStabsSpec)) spanStabsUptoCard

/-- THE SECOND FORM's CARD OF 'trommellaw10.SpanMeets'. -/
def spanMeetsUptoCard : Claim7 := { stood := { row := spanMeetsUptoRow, standIns := [], harness := (true, "1d9e97a40ae204e354122d7356e08f203016709c2e82a01d97713b1abaf5c036"), looks := false }, kinds := [], alts := [], laidByText := true, laidKinds := [.data], laidTests := true, laidLooks := .later }
def SpanMeetsUptoCardSaid : Prop := Claim7.holds Tryd.pinned (.plain (OpenSpec.upto spanMeetsSpec)) spanMeetsUptoCard

/-- THE SECOND FORM's CARD OF 'trommellaw10.SpanCommons'. -/
def spanCommonsUptoCard : Claim7 := { stood := { row := spanCommonsUptoRow, standIns := [], harness := (true, "1d9e97a40ae204e354122d7356e08f203016709c2e82a01d97713b1abaf5c036"), looks := false }, kinds := [], alts := [], laidByText := true, laidKinds := [.data], laidTests := true, laidLooks := .later }
def SpanCommonsUptoCardSaid : Prop := Claim7.holds Tryd.pinned (.plain (OpenSpec.upto spanCommonsSpec)) spanCommonsUptoCard
end Rows
end Go.Proofs.YtapemeboobcgmaaDoor
