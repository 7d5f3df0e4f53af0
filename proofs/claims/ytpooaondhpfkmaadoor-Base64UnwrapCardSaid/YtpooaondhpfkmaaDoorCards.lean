/-
  DERIVED. GIVEN WITH THE SEED: THE CARDS: each row of YtpooaondhpfkmaaDoorRows.lean that lists a variable, with what it lists TIED to the program's text (the seventh form; the later family's looks); each row that meets fmt, with fmt's text TOLD by the authors' own Lean function (tested against real Go, not proved from fmt's source: count such statements apart). THE CARD IS WHAT COUNTS. Prove the row's statement (the work); the ties are given (YtpooaondhpfkmaaDoorTie.lean); close each card by the builder's one call (the guide's Derived/Test/ToyasCard.lean, 'card_holds'). Laid BY PROGRAM, IN A SANDBOX (cutbox-door.mjs). By AI agents, Wed Nov 11 2026. No macro, syntax, notation, axiom, sorry.
-/
import Derived.Test.YtpooaondhpfkmaaDoorRows
import GoSem.ClaimSeven
namespace Go.Proofs.YtpooaondhpfkmaaDoor
namespace Rows

/-- THE TIED CARD OF 'bulletinlaw02.Base64Unwrap'. -/
def base64UnwrapCard : Claim7 := { stood := { row := base64UnwrapRow, standIns := [], harness := (true, "6a2b03110d0cdd2d0197e2697bc926bea07e3688b0b5b4849dedfbebb0a6bff0"), looks := false }, kinds := [], alts := [], laidByText := true, laidKinds := [.data, .pinned], laidTests := true, laidLooks := .later }
def Base64UnwrapCardSaid : Prop := Claim7.holds Tryd.pinned (.plain (OpenSpec.ofChange base64UnwrapSpec)) base64UnwrapCard

/-- THE SECOND FORM's CARD OF 'bulletinlaw02.Base64Unwrap'. -/
def base64UnwrapUptoCard : Claim7 := { stood := { row := base64UnwrapUptoRow, standIns := [], harness := (true, "6a2b03110d0cdd2d0197e2697bc926bea07e3688b0b5b4849dedfbebb0a6bff0"), looks := false }, kinds := [], alts := [], laidByText := true, laidKinds := [.data, .pinned], laidTests := true, laidLooks := .later }
def Base64UnwrapUptoCardSaid : Prop := Claim7.holds Tryd.pinned (.plain (OpenSpec.upto base64UnwrapSpec)) base64UnwrapUptoCard
end Rows
end Go.Proofs.YtpooaondhpfkmaaDoor
