/-
  DERIVED. GIVEN WITH THE SEED: THE CARDS: each row of YtbigllcononkbaaDoorRows.lean that lists a variable, with what it lists TIED to the program's text (the seventh form; the later family's looks); each row that meets fmt, with fmt's text TOLD by the authors' own Lean function (tested against real Go, not proved from fmt's source: count such statements apart). THE CARD IS WHAT COUNTS. Prove the row's statement (the work); the ties are given (YtbigllcononkbaaDoorTie.lean); close each card by the builder's one call (the guide's Derived/Test/ToyasCard.lean, 'card_holds'). Laid BY PROGRAM, IN A SANDBOX (cutbox-door.mjs). By AI agents, Wed Nov 11 2026. No macro, syntax, notation, axiom, sorry.
-/
import Derived.Test.YtbigllcononkbaaDoorRows
import GoSem.ClaimSeven
namespace Go.Proofs.YtbigllcononkbaaDoor
namespace Rows

/-- THE TIED CARD OF 'carousellaw14.AsmBack'. -/
def asmBackCard : Claim7 := { stood := { row := asmBackRow, standIns := [], harness := (true, "3cbab630174e7b01386662f0369e5f551f3ce27311734530e992e4aafa1f6c33"), looks := true }, kinds := [], alts := [], laidByText := true, laidKinds := [.data, .data, .data, .data, .data, .sentinel, .sentinel, .listed, .data, .pinned], laidTests := true, laidLooks := .later }
def AsmBackCardSaid : Prop := Claim7.holds Tryd.pinned (.plain (OpenSpec.ofChange asmBackSpec)) asmBackCard

/-- THE TIED CARD OF 'carousellaw14.AsmOnce'. -/
def asmOnceCard : Claim7 := { stood := { row := asmOnceRow, standIns := [], harness := (true, "3cbab630174e7b01386662f0369e5f551f3ce27311734530e992e4aafa1f6c33"), looks := true }, kinds := [], alts := [], laidByText := true, laidKinds := [.data, .data, .data, .data, .data, .sentinel, .sentinel, .listed, .data, .pinned], laidTests := true, laidLooks := .later }
def AsmOnceCardSaid : Prop := Claim7.holds Tryd.pinned (.plain (OpenSpec.ofChange asmOnceSpec)) asmOnceCard

/-- THE SECOND FORM's CARD OF 'carousellaw14.AsmBack'. -/
def asmBackUptoCard : Claim7 := { stood := { row := asmBackUptoRow, standIns := [], harness := (true, "3cbab630174e7b01386662f0369e5f551f3ce27311734530e992e4aafa1f6c33"), looks := true }, kinds := [], alts := [], laidByText := true, laidKinds := [.data, .data, .data, .data, .data, .sentinel, .sentinel, .listed, .data, .pinned], laidTests := true, laidLooks := .later }
def AsmBackUptoCardSaid : Prop := Claim7.holds Tryd.pinned (.plain (OpenSpec.upto asmBackSpec)) asmBackUptoCard

/-- THE SECOND FORM's CARD OF 'carousellaw14.AsmOnce'. -/
def asmOnceUptoCard : Claim7 := { stood := { row := asmOnceUptoRow, standIns := [], harness := (true, "3cbab630174e7b01386662f0369e5f551f3ce27311734530e992e4aafa1f6c33"), looks := true }, kinds := [], alts := [], laidByText := true, laidKinds := [.data, .data, .data, .data, .data, .sentinel, .sentinel, .listed, .data, .pinned], laidTests := true, laidLooks := .later }
def AsmOnceUptoCardSaid : Prop := Claim7.holds Tryd.pinned (.plain (OpenSpec.upto asmOnceSpec)) asmOnceUptoCard
end Rows
end Go.Proofs.YtbigllcononkbaaDoor
