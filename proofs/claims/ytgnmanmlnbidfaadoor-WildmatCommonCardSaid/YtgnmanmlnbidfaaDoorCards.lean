/-
  DERIVED. GIVEN WITH THE SEED: THE CARDS: each row of YtgnmanmlnbidfaaDoorRows.lean that lists a variable, with what it lists TIED to the program's text (the seventh form; the later family's looks); each row that meets fmt, with fmt's text TOLD by the authors' own Lean function (tested against real Go, not proved from fmt's source: count such statements apart). THE CARD IS WHAT COUNTS. Prove the row's statement (the work); the ties are given (YtgnmanmlnbidfaaDoorTie.lean); close each card by the builder's one call (the guide's Derived/Test/ToyasCard.lean, 'card_holds'). Laid BY PROGRAM, IN A SANDBOX (cutbox-door.mjs). By AI agents, Wed Nov 11 2026. No macro, syntax, notation, axiom, sorry.
-/
import Derived.Test.YtgnmanmlnbidfaaDoorRows
import GoSem.ClaimSeven
namespace Go.Proofs.YtgnmanmlnbidfaaDoor
namespace Rows

/-- THE TIED CARD OF 'bulletinlaw13.WildmatMatches'. -/
def wildmatMatchesCard : Claim7 := { stood := { row := wildmatMatchesRow, standIns := [], harness := (true, "f71ae021dce936aa06d6821174eafce8c363f22babee457cc01c2ce4750d3e48"), looks := false }, kinds := [], alts := [], laidByText := true, laidKinds := [.data, .pinned], laidTests := true, laidLooks := .later }
def WildmatMatchesCardSaid : Prop := Claim7.holds Tryd.pinned (.plain (OpenSpec.ofChange wildmatMatchesSpec)) wildmatMatchesCard

/-- THE TIED CARD OF 'bulletinlaw13.WildmatLiterals'. -/
def wildmatLiteralsCard : Claim7 := { stood := { row := wildmatLiteralsRow, standIns := [], harness := (true, "f71ae021dce936aa06d6821174eafce8c363f22babee457cc01c2ce4750d3e48"), looks := false }, kinds := [], alts := [], laidByText := true, laidKinds := [.data, .pinned], laidTests := true, laidLooks := .later }
def WildmatLiteralsCardSaid : Prop := Claim7.holds Tryd.pinned (.plain (OpenSpec.ofChange wildmatLiteralsSpec)) wildmatLiteralsCard

/-- THE TIED CARD OF 'bulletinlaw13.WildmatCommon'. -/
def wildmatCommonCard : Claim7 := { stood := { row := wildmatCommonRow, standIns := [], harness := (true, "f71ae021dce936aa06d6821174eafce8c363f22babee457cc01c2ce4750d3e48"), looks := false }, kinds := [], alts := [], laidByText := true, laidKinds := [.data, .pinned], laidTests := true, laidLooks := .later }
def WildmatCommonCardSaid : Prop := Claim7.holds Tryd.pinned (.plain (OpenSpec.ofChange wildmatCommonSpec)) wildmatCommonCard

/-- THE TIED CARD OF 'bulletinlaw13.WildmatDisjoint'. -/
def wildmatDisjointCard : Claim7 := { stood := { row := wildmatDisjointRow, standIns := [], harness := (true, "f71ae021dce936aa06d6821174eafce8c363f22babee457cc01c2ce4750d3e48"), looks := false }, kinds := [], alts := [], laidByText := true, laidKinds := [.data, .pinned], laidTests := true, laidLooks := .later }
def WildmatDisjointCardSaid : Prop := Claim7.holds Tryd.pinned (.plain (OpenSpec.ofChange wildmatDisjointSpec)) wildmatDisjointCard

/-- THE TIED CARD OF 'bulletinlaw13.WildmatVerdicts'. -/
def wildmatVerdictsCard : Claim7 := { stood := { row := wildmatVerdictsRow, standIns := [], harness := (true, "f71ae021dce936aa06d6821174eafce8c363f22babee457cc01c2ce4750d3e48"), looks := false }, kinds := [], alts := [], laidByText := true, laidKinds := [.data, .pinned], laidTests := true, laidLooks := .later }
def WildmatVerdictsCardSaid : Prop := Claim7.holds Tryd.pinned (.plain (OpenSpec.ofChange wildmatVerdictsSpec)) wildmatVerdictsCard

/-- THE TIED CARD OF 'bulletinlaw13.WildmatAppends'. -/
def wildmatAppendsCard : Claim7 := { stood := { row := wildmatAppendsRow, standIns := [], harness := (true, "f71ae021dce936aa06d6821174eafce8c363f22babee457cc01c2ce4750d3e48"), looks := false }, kinds := [], alts := [], laidByText := true, laidKinds := [.data, .pinned], laidTests := true, laidLooks := .later }
def WildmatAppendsCardSaid : Prop := Claim7.holds Tryd.pinned (.plain (OpenSpec.ofChange wildmatAppendsSpec)) wildmatAppendsCard

/-- THE TIED CARD OF 'bulletinlaw13.WildmatSelects'. -/
def wildmatSelectsCard : Claim7 := { stood := { row := wildmatSelectsRow, standIns := [], harness := (true, "f71ae021dce936aa06d6821174eafce8c363f22babee457cc01c2ce4750d3e48"), looks := false }, kinds := [], alts := [], laidByText := true, laidKinds := [.data, .pinned], laidTests := true, laidLooks := .later }
def WildmatSelectsCardSaid : Prop := Claim7.holds Tryd.pinned (.plain (OpenSpec.ofChange wildmatSelectsSpec)) wildmatSelectsCard

/-- THE TIED CARD OF 'bulletinlaw13.WildmatNil'. -/
def wildmatNilCard : Claim7 := { stood := { row := wildmatNilRow, standIns := [], harness := (true, "f71ae021dce936aa06d6821174eafce8c363f22babee457cc01c2ce4750d3e48"), looks := false }, kinds := [], alts := [], laidByText := true, laidKinds := [.data, .pinned], laidTests := true, laidLooks := .later }
def WildmatNilCardSaid : Prop := Claim7.holds Tryd.pinned (.plain (OpenSpec.ofChange wildmatNilSpec)) wildmatNilCard

/-- THE SECOND FORM's CARD OF 'bulletinlaw13.WildmatMatches'. -/
def wildmatMatchesUptoCard : Claim7 := { stood := { row := wildmatMatchesUptoRow, standIns := [], harness := (true, "f71ae021dce936aa06d6821174eafce8c363f22babee457cc01c2ce4750d3e48"), looks := false }, kinds := [], alts := [], laidByText := true, laidKinds := [.data, .pinned], laidTests := true, laidLooks := .later }
def WildmatMatchesUptoCardSaid : Prop := Claim7.holds Tryd.pinned (.plain (OpenSpec.upto wildmatMatchesSpec)) wildmatMatchesUptoCard

/-- THE SECOND FORM's CARD OF 'bulletinlaw13.WildmatLiterals'. -/
def wildmatLiteralsUptoCard : Claim7 := { stood := { row := wildmatLiteralsUptoRow, standIns := [], harness := (true, "f71ae021dce936aa06d6821174eafce8c363f22babee457cc01c2ce4750d3e48"), looks := false }, kinds := [], alts := [], laidByText := true, laidKinds := [.data, .pinned], laidTests := true, laidLooks := .later }
def WildmatLiteralsUptoCardSaid : Prop := Claim7.holds Tryd.pinned (.plain (OpenSpec.upto wildmatLiteralsSpec)) wildmatLiteralsUptoCard

/-- THE SECOND FORM's CARD OF 'bulletinlaw13.WildmatCommon'. -/
def wildmatCommonUptoCard : Claim7 := { stood := { row := wildmatCommonUptoRow, standIns := [], harness := (true, "f71ae021dce936aa06d6821174eafce8c363f22babee457cc01c2ce4750d3e48"), looks := false }, kinds := [], alts := [], laidByText := true, laidKinds := [.data, .pinned], laidTests := true, laidLooks := .later }
def WildmatCommonUptoCardSaid : Prop := Claim7.holds Tryd.pinned (.plain (OpenSpec.upto wildmatCommonSpec)) wildmatCommonUptoCard

/-- THE SECOND FORM's CARD OF 'bulletinlaw13.WildmatDisjoint'. -/
def wildmatDisjointUptoCard : Claim7 := { stood := { row := wildmatDisjointUptoRow, standIns := [], harness := (true, "f71ae021dce936aa06d6821174eafce8c363f22babee457cc01c2ce4750d3e48"), looks := false }, kinds := [], alts := [], laidByText := true, laidKinds := [.data, .pinned], laidTests := true, laidLooks := .later }
def WildmatDisjointUptoCardSaid : Prop := Claim7.holds Tryd.pinned (.plain (OpenSpec.upto wildmatDisjointSpec)) wildmatDisjointUptoCard

/-- THE SECOND FORM's CARD OF 'bulletinlaw13.WildmatVerdicts'. -/
def wildmatVerdictsUptoCard : Claim7 := { stood := { row := wildmatVerdictsUptoRow, standIns := [], harness := (true, "f71ae021dce936aa06d6821174eafce8c363f22babee457cc01c2ce4750d3e48"), looks := false }, kinds := [], alts := [], laidByText := true, laidKinds := [.data, .pinned], laidTests := true, laidLooks := .later }
def WildmatVerdictsUptoCardSaid : Prop := Claim7.holds Tryd.pinned (.plain (OpenSpec.upto wildmatVerdictsSpec)) wildmatVerdictsUptoCard

/-- THE SECOND FORM's CARD OF 'bulletinlaw13.WildmatAppends'. -/
def wildmatAppendsUptoCard : Claim7 := { stood := { row := wildmatAppendsUptoRow, standIns := [], harness := (true, "f71ae021dce936aa06d6821174eafce8c363f22babee457cc01c2ce4750d3e48"), looks := false }, kinds := [], alts := [], laidByText := true, laidKinds := [.data, .pinned], laidTests := true, laidLooks := .later }
def WildmatAppendsUptoCardSaid : Prop := Claim7.holds Tryd.pinned (.plain (OpenSpec.upto wildmatAppendsSpec)) wildmatAppendsUptoCard

/-- THE SECOND FORM's CARD OF 'bulletinlaw13.WildmatSelects'. -/
def wildmatSelectsUptoCard : Claim7 := { stood := { row := wildmatSelectsUptoRow, standIns := [], harness := (true, "f71ae021dce936aa06d6821174eafce8c363f22babee457cc01c2ce4750d3e48"), looks := false }, kinds := [], alts := [], laidByText := true, laidKinds := [.data, .pinned], laidTests := true, laidLooks := .later }
def WildmatSelectsUptoCardSaid : Prop := Claim7.holds Tryd.pinned (.plain (OpenSpec.upto wildmatSelectsSpec)) wildmatSelectsUptoCard

/-- THE SECOND FORM's CARD OF 'bulletinlaw13.WildmatNil'. -/
def wildmatNilUptoCard : Claim7 := { stood := { row := wildmatNilUptoRow, standIns := [], harness := (true, "f71ae021dce936aa06d6821174eafce8c363f22babee457cc01c2ce4750d3e48"), looks := false }, kinds := [], alts := [], laidByText := true, laidKinds := [.data, .pinned], laidTests := true, laidLooks := .later }
def WildmatNilUptoCardSaid : Prop := Claim7.holds Tryd.pinned (.plain (OpenSpec.upto wildmatNilSpec)) wildmatNilUptoCard
end Rows
end Go.Proofs.YtgnmanmlnbidfaaDoor
