/-
  DERIVED. GIVEN WITH THE SEED: THE CARDS: each row of YtbkgnokoicmppaaDoorRows.lean that lists a variable, with what it lists TIED to the program's text (the seventh form; the later family's looks); each row that meets fmt, with fmt's text TOLD by the authors' own Lean function (tested against real Go, not proved from fmt's source: count such statements apart). THE CARD IS WHAT COUNTS. Prove the row's statement (the work); the ties are given (YtbkgnokoicmppaaDoorTie.lean); close each card by the builder's one call (the guide's Derived/Test/ToyasCard.lean, 'card_holds'). Laid BY PROGRAM, IN A SANDBOX (cutbox-door.mjs). By AI agents, Wed Nov 11 2026. No macro, syntax, notation, axiom, sorry.
-/
import Derived.Test.YtbkgnokoicmppaaDoorRows
import GoSem.ClaimSeven
namespace Go.Proofs.YtbkgnokoicmppaaDoor
namespace Rows

/-- THE TIED CARD OF 'alibilaw06.GraphReaches'. -/
def graphReachesCard : Claim7 := { stood := { row := graphReachesRow, standIns := [], harness := (true, "c972c723d46f5d414147abc2a6f5542e027f93f3c37bf6342f5a9490af3aef0d"), looks := true }, kinds := [], alts := [], laidByText := true, laidKinds := [.data], laidTests := true, laidLooks := .later }
def GraphReachesCardSaid : Prop := Claim7.holds Tryd.pinned (.plain (OpenSpec.ofChange graphReachesSpec)) graphReachesCard

/-- THE TIED CARD OF 'alibilaw06.GraphCalls'. -/
def graphCallsCard : Claim7 := { stood := { row := graphCallsRow, standIns := [], harness := (true, "c972c723d46f5d414147abc2a6f5542e027f93f3c37bf6342f5a9490af3aef0d"), looks := true }, kinds := [], alts := [], laidByText := true, laidKinds := [.data], laidTests := true, laidLooks := .later }
def GraphCallsCardSaid : Prop := Claim7.holds Tryd.pinned (.plain (OpenSpec.ofChange graphCallsSpec)) graphCallsCard

/-- THE TIED CARD OF 'alibilaw25.ClassNests'. -/
def classNestsCard : Claim7 := { stood := { row := classNestsRow, standIns := [], harness := (true, "c972c723d46f5d414147abc2a6f5542e027f93f3c37bf6342f5a9490af3aef0d"), looks := true }, kinds := [], alts := [], laidByText := true, laidKinds := [.data], laidTests := true, laidLooks := .later }
def ClassNestsCardSaid : Prop := Claim7.holds Tryd.pinned (.plain (OpenSpec.ofChange classNestsSpec)) classNestsCard

/-- THE SECOND FORM's CARD OF 'alibilaw06.GraphReaches'. -/
def graphReachesUptoCard : Claim7 := { stood := { row := graphReachesUptoRow, standIns := [], harness := (true, "c972c723d46f5d414147abc2a6f5542e027f93f3c37bf6342f5a9490af3aef0d"), looks := true }, kinds := [], alts := [], laidByText := true, laidKinds := [.data], laidTests := true, laidLooks := .later }
def GraphReachesUptoCardSaid : Prop := Claim7.holds Tryd.pinned (.plain (OpenSpec.upto graphReachesSpec)) graphReachesUptoCard

/-- THE SECOND FORM's CARD OF 'alibilaw06.GraphCalls'. -/
def graphCallsUptoCard : Claim7 := { stood := { row := graphCallsUptoRow, standIns := [], harness := (true, "c972c723d46f5d414147abc2a6f5542e027f93f3c37bf6342f5a9490af3aef0d"), looks := true }, kinds := [], alts := [], laidByText := true, laidKinds := [.data], laidTests := true, laidLooks := .later }
def GraphCallsUptoCardSaid : Prop := Claim7.holds Tryd.pinned (.plain (OpenSpec.upto graphCallsSpec)) graphCallsUptoCard

/-- THE SECOND FORM's CARD OF 'alibilaw25.ClassNests'. -/
def classNestsUptoCard : Claim7 := { stood := { row := classNestsUptoRow, standIns := [], harness := (true, "c972c723d46f5d414147abc2a6f5542e027f93f3c37bf6342f5a9490af3aef0d"), looks := true }, kinds := [], alts := [], laidByText := true, laidKinds := [.data], laidTests := true, laidLooks := .later }
def ClassNestsUptoCardSaid : Prop := Claim7.holds Tryd.pinned (.plain (OpenSpec.upto classNestsSpec)) classNestsUptoCard
end Rows
end Go.Proofs.YtbkgnokoicmppaaDoor
