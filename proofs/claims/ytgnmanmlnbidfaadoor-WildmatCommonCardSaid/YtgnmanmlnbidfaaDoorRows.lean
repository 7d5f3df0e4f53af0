/-
  NARROWER THAN 'FOR EVERY INPUT', by the rows' own cells (each row's printed sentence says how): WildmatMatches: laid · WildmatLiterals: laid · WildmatCommon: laid · WildmatDisjoint: laid · WildmatVerdicts: laid · WildmatAppends: laid · WildmatSelects: laid · WildmatNil: laid.
  DERIVED. THE GIVEN ROWS OF THIS SEAT. 8 by the template 'for every input the law returns true; each argument reads behind the call as it read before'; 0 by the template 'total and deterministic' (their statements: YtgnmanmlnbidfaaDoorTotals.lean).
  GIVEN WITH THE SEED: the statements are not yours to turn. If you find one false, say at which input.
  Laid BY PROGRAM, IN A SANDBOX (cutbox-rows.mjs): the forced cells as the released guide's own fill.sh prints them over the translation 043409dfb957546f… (all of the seat's roots in one cut). By AI agents, Wed Nov 11 2026. No macro, syntax, notation, axiom, sorry.
-/
import Derived.Test.YtgnmanmlnbidfaaDoorChecked
import GoSem.PinnedTables
import GoSem.Claim
import GoSem.ClaimJoined
import GoSem.ClaimMapViews
import Derived.JoinedTies
import Derived.KernelRfl
namespace Go.Proofs.YtgnmanmlnbidfaaDoor
/- THE CELL 'sum', in the pinned program and in every row, IS THE sha256 OF THE DUMP (.gsa) THAT YtgnmanmlnbidfaaDoorProg.lean LOADS. Nothing in Lean hashes anything: it is a label: what it is worth is what the hold of that sum in a sandbox is worth. -/
noncomputable def Tryd.pinned : Pinned := { name := "ytgnmanmlnbidfaadoor", sum := "043409dfb957546f0dc8403c346e19ad11b392db9d410d919f61cae66843a82a", checked := Tryd.checked }
namespace Rows
def none {H : Type} : Left H := { results := [], args := [] }

/- WHAT THE LISTED PACKAGE-LEVEL VARIABLES READ AS WHEN THE CALL BEGINS. Each datum BY PROGRAM (the guide's laid-datum.mjs) off the statement by which the dump's own 'gosem.cut.vars' lays the variable. In a bare row this is a premise. The card (YtgnmanmlnbidfaaDoorCards.lean) ties it to the program's text. -/
def laid_unicode_utf8_acceptRanges {H : Type} : DataW H := .agg [.agg [.lit (.int .u8 128), .lit (.int .u8 191)], .agg [.lit (.int .u8 160), .lit (.int .u8 191)], .agg [.lit (.int .u8 128), .lit (.int .u8 159)], .agg [.lit (.int .u8 144), .lit (.int .u8 191)], .agg [.lit (.int .u8 128), .lit (.int .u8 143)], .agg [.lit (.int .u8 0), .lit (.int .u8 0)], .agg [.lit (.int .u8 0), .lit (.int .u8 0)], .agg [.lit (.int .u8 0), .lit (.int .u8 0)], .agg [.lit (.int .u8 0), .lit (.int .u8 0)], .agg [.lit (.int .u8 0), .lit (.int .u8 0)], .agg [.lit (.int .u8 0), .lit (.int .u8 0)], .agg [.lit (.int .u8 0), .lit (.int .u8 0)], .agg [.lit (.int .u8 0), .lit (.int .u8 0)], .agg [.lit (.int .u8 0), .lit (.int .u8 0)], .agg [.lit (.int .u8 0), .lit (.int .u8 0)], .agg [.lit (.int .u8 0), .lit (.int .u8 0)]]
/-- One of Go's own tables, pinned by name: the form's constant. -/
def laid_unicode_utf8_first : DataW Unit := Go.Pinned.utf8First

/-- 'bulletinlaw13.WildmatMatches': WHATEVER THE INPUT: true; the input reads as it did. -/
def wildmatMatchesSpec : ChangeSpec := { name := "wildmatMatches", fn := fun _ => fun
  | [d1, d2] => { results := [.lit (.bool true)], args := [d1, d2] }
  | _ => none }
def wildmatMatchesRow : OpenClaim := { program := "ytgnmanmlnbidfaadoor", sum := "043409dfb957546f0dc8403c346e19ad11b392db9d410d919f61cae66843a82a", func := "bulletin/bulletinlaw13.WildmatMatches", spec := "wildmatMatches", inPlace := ["internal/bytealg.IndexByteString", "internal/bytealg.CountString", "internal/bytealg.IndexString"], unfollowed := true, recurses := true, named := ["unicode/utf8.first", "unicode/utf8.acceptRanges", "internal/bytealg.MaxLen"], plainKeys := false, apart := false, laid := [("unicode/utf8.acceptRanges", laid_unicode_utf8_acceptRanges), ("unicode/utf8.first", laid_unicode_utf8_first)] }
def WildmatMatchesSaid : Prop := wildmatMatchesRow.holds Tryd.pinned (OpenSpec.ofChange wildmatMatchesSpec)

/-- ITS FALSE NEIGHBOUR: 'it returns false'. Refute it at one input. -/
def wildmatMatchesWrong : ChangeSpec := { name := "wildmatMatches", fn := fun _ => fun
  | [d1, d2] => { results := [.lit (.bool false)], args := [d1, d2] }
  | _ => none }
def WildmatMatchesWrongFalsely : Prop := wildmatMatchesRow.holds Tryd.pinned (OpenSpec.ofChange wildmatMatchesWrong)

/-- 'bulletinlaw13.WildmatLiterals': WHATEVER THE INPUT: true; the input reads as it did. -/
def wildmatLiteralsSpec : ChangeSpec := { name := "wildmatLiterals", fn := fun _ => fun
  | [d1, d2] => { results := [.lit (.bool true)], args := [d1, d2] }
  | _ => none }
def wildmatLiteralsRow : OpenClaim := { program := "ytgnmanmlnbidfaadoor", sum := "043409dfb957546f0dc8403c346e19ad11b392db9d410d919f61cae66843a82a", func := "bulletin/bulletinlaw13.WildmatLiterals", spec := "wildmatLiterals", inPlace := ["internal/bytealg.IndexByteString", "internal/bytealg.CountString", "internal/bytealg.IndexString"], unfollowed := true, recurses := true, named := ["unicode/utf8.first", "unicode/utf8.acceptRanges", "internal/bytealg.MaxLen"], plainKeys := false, apart := false, laid := [("unicode/utf8.acceptRanges", laid_unicode_utf8_acceptRanges), ("unicode/utf8.first", laid_unicode_utf8_first)] }
def WildmatLiteralsSaid : Prop := wildmatLiteralsRow.holds Tryd.pinned (OpenSpec.ofChange wildmatLiteralsSpec)

/-- ITS FALSE NEIGHBOUR: 'it returns false'. Refute it at one input. -/
def wildmatLiteralsWrong : ChangeSpec := { name := "wildmatLiterals", fn := fun _ => fun
  | [d1, d2] => { results := [.lit (.bool false)], args := [d1, d2] }
  | _ => none }
def WildmatLiteralsWrongFalsely : Prop := wildmatLiteralsRow.holds Tryd.pinned (OpenSpec.ofChange wildmatLiteralsWrong)

/-- 'bulletinlaw13.WildmatCommon': WHATEVER THE INPUT: true; the input reads as it did. -/
def wildmatCommonSpec : ChangeSpec := { name := "wildmatCommon", fn := fun _ => fun
  | [d1, d2] => { results := [.lit (.bool true)], args := [d1, d2] }
  | _ => none }
def wildmatCommonRow : OpenClaim := { program := "ytgnmanmlnbidfaadoor", sum := "043409dfb957546f0dc8403c346e19ad11b392db9d410d919f61cae66843a82a", func := "bulletin/bulletinlaw13.WildmatCommon", spec := "wildmatCommon", inPlace := ["internal/bytealg.IndexByteString", "internal/bytealg.CountString", "internal/bytealg.IndexString"], unfollowed := true, recurses := true, named := ["unicode/utf8.first", "unicode/utf8.acceptRanges", "internal/bytealg.MaxLen"], plainKeys := false, apart := false, laid := [("unicode/utf8.acceptRanges", laid_unicode_utf8_acceptRanges), ("unicode/utf8.first", laid_unicode_utf8_first)] }
def WildmatCommonSaid : Prop := wildmatCommonRow.holds Tryd.pinned (OpenSpec.ofChange wildmatCommonSpec)

/-- ITS FALSE NEIGHBOUR: 'it returns false'. Refute it at one input. -/
def wildmatCommonWrong : ChangeSpec := { name := "wildmatCommon", fn := fun _ => fun
  | [d1, d2] => { results := [.lit (.bool false)], args := [d1, d2] }
  | _ => none }
def WildmatCommonWrongFalsely : Prop := wildmatCommonRow.holds Tryd.pinned (OpenSpec.ofChange wildmatCommonWrong)

/-- 'bulletinlaw13.WildmatDisjoint': WHATEVER THE INPUT: true; the input reads as it did. -/
def wildmatDisjointSpec : ChangeSpec := { name := "wildmatDisjoint", fn := fun _ => fun
  | [d1, d2, d3] => { results := [.lit (.bool true)], args := [d1, d2, d3] }
  | _ => none }
def wildmatDisjointRow : OpenClaim := { program := "ytgnmanmlnbidfaadoor", sum := "043409dfb957546f0dc8403c346e19ad11b392db9d410d919f61cae66843a82a", func := "bulletin/bulletinlaw13.WildmatDisjoint", spec := "wildmatDisjoint", inPlace := ["internal/bytealg.IndexByteString", "internal/bytealg.CountString", "internal/bytealg.IndexString"], unfollowed := true, recurses := true, named := ["unicode/utf8.first", "unicode/utf8.acceptRanges", "internal/bytealg.MaxLen"], plainKeys := false, apart := false, laid := [("unicode/utf8.acceptRanges", laid_unicode_utf8_acceptRanges), ("unicode/utf8.first", laid_unicode_utf8_first)] }
def WildmatDisjointSaid : Prop := wildmatDisjointRow.holds Tryd.pinned (OpenSpec.ofChange wildmatDisjointSpec)

/-- ITS FALSE NEIGHBOUR: 'it returns false'. Refute it at one input. -/
def wildmatDisjointWrong : ChangeSpec := { name := "wildmatDisjoint", fn := fun _ => fun
  | [d1, d2, d3] => { results := [.lit (.bool false)], args := [d1, d2, d3] }
  | _ => none }
def WildmatDisjointWrongFalsely : Prop := wildmatDisjointRow.holds Tryd.pinned (OpenSpec.ofChange wildmatDisjointWrong)

/-- 'bulletinlaw13.WildmatVerdicts': WHATEVER THE INPUT: true; the input reads as it did. -/
def wildmatVerdictsSpec : ChangeSpec := { name := "wildmatVerdicts", fn := fun _ => fun
  | [d1, d2] => { results := [.lit (.bool true)], args := [d1, d2] }
  | _ => none }
def wildmatVerdictsRow : OpenClaim := { program := "ytgnmanmlnbidfaadoor", sum := "043409dfb957546f0dc8403c346e19ad11b392db9d410d919f61cae66843a82a", func := "bulletin/bulletinlaw13.WildmatVerdicts", spec := "wildmatVerdicts", inPlace := ["internal/bytealg.CountString", "internal/bytealg.IndexByteString", "internal/bytealg.IndexString"], unfollowed := true, recurses := true, named := ["unicode/utf8.first", "unicode/utf8.acceptRanges", "internal/bytealg.MaxLen"], plainKeys := false, apart := false, laid := [("unicode/utf8.acceptRanges", laid_unicode_utf8_acceptRanges), ("unicode/utf8.first", laid_unicode_utf8_first)] }
def WildmatVerdictsSaid : Prop := wildmatVerdictsRow.holds Tryd.pinned (OpenSpec.ofChange wildmatVerdictsSpec)

/-- ITS FALSE NEIGHBOUR: 'it returns false'. Refute it at one input. -/
def wildmatVerdictsWrong : ChangeSpec := { name := "wildmatVerdicts", fn := fun _ => fun
  | [d1, d2] => { results := [.lit (.bool false)], args := [d1, d2] }
  | _ => none }
def WildmatVerdictsWrongFalsely : Prop := wildmatVerdictsRow.holds Tryd.pinned (OpenSpec.ofChange wildmatVerdictsWrong)

/-- 'bulletinlaw13.WildmatAppends': WHATEVER THE INPUT: true; the input reads as it did. -/
def wildmatAppendsSpec : ChangeSpec := { name := "wildmatAppends", fn := fun _ => fun
  | [d1, d2, d3, d4] => { results := [.lit (.bool true)], args := [d1, d2, d3, d4] }
  | _ => none }
def wildmatAppendsRow : OpenClaim := { program := "ytgnmanmlnbidfaadoor", sum := "043409dfb957546f0dc8403c346e19ad11b392db9d410d919f61cae66843a82a", func := "bulletin/bulletinlaw13.WildmatAppends", spec := "wildmatAppends", inPlace := ["internal/bytealg.CountString", "internal/bytealg.IndexByteString", "internal/bytealg.IndexString"], unfollowed := true, recurses := true, named := ["unicode/utf8.first", "unicode/utf8.acceptRanges", "internal/bytealg.MaxLen"], plainKeys := false, apart := false, laid := [("unicode/utf8.acceptRanges", laid_unicode_utf8_acceptRanges), ("unicode/utf8.first", laid_unicode_utf8_first)] }
def WildmatAppendsSaid : Prop := wildmatAppendsRow.holds Tryd.pinned (OpenSpec.ofChange wildmatAppendsSpec)

/-- ITS FALSE NEIGHBOUR: 'it returns false'. Refute it at one input. -/
def wildmatAppendsWrong : ChangeSpec := { name := "wildmatAppends", fn := fun _ => fun
  | [d1, d2, d3, d4] => { results := [.lit (.bool false)], args := [d1, d2, d3, d4] }
  | _ => none }
def WildmatAppendsWrongFalsely : Prop := wildmatAppendsRow.holds Tryd.pinned (OpenSpec.ofChange wildmatAppendsWrong)

/-- 'bulletinlaw13.WildmatSelects': WHATEVER THE INPUT: true; the input reads as it did. -/
def wildmatSelectsSpec : ChangeSpec := { name := "wildmatSelects", fn := fun _ => fun
  | [d1, d2] => { results := [.lit (.bool true)], args := [d1, d2] }
  | _ => none }
def wildmatSelectsRow : OpenClaim := { program := "ytgnmanmlnbidfaadoor", sum := "043409dfb957546f0dc8403c346e19ad11b392db9d410d919f61cae66843a82a", func := "bulletin/bulletinlaw13.WildmatSelects", spec := "wildmatSelects", inPlace := ["internal/bytealg.CountString", "internal/bytealg.IndexByteString", "internal/bytealg.IndexString"], unfollowed := true, recurses := true, named := ["unicode/utf8.first", "unicode/utf8.acceptRanges", "internal/bytealg.MaxLen"], plainKeys := false, apart := false, laid := [("unicode/utf8.acceptRanges", laid_unicode_utf8_acceptRanges), ("unicode/utf8.first", laid_unicode_utf8_first)] }
def WildmatSelectsSaid : Prop := wildmatSelectsRow.holds Tryd.pinned (OpenSpec.ofChange wildmatSelectsSpec)

/-- ITS FALSE NEIGHBOUR: 'it returns false'. Refute it at one input. -/
def wildmatSelectsWrong : ChangeSpec := { name := "wildmatSelects", fn := fun _ => fun
  | [d1, d2] => { results := [.lit (.bool false)], args := [d1, d2] }
  | _ => none }
def WildmatSelectsWrongFalsely : Prop := wildmatSelectsRow.holds Tryd.pinned (OpenSpec.ofChange wildmatSelectsWrong)

/-- 'bulletinlaw13.WildmatNil': WHATEVER THE INPUT: true; the input reads as it did. -/
def wildmatNilSpec : ChangeSpec := { name := "wildmatNil", fn := fun _ => fun
  | [d1, d2] => { results := [.lit (.bool true)], args := [d1, d2] }
  | _ => none }
def wildmatNilRow : OpenClaim := { program := "ytgnmanmlnbidfaadoor", sum := "043409dfb957546f0dc8403c346e19ad11b392db9d410d919f61cae66843a82a", func := "bulletin/bulletinlaw13.WildmatNil", spec := "wildmatNil", inPlace := ["internal/bytealg.IndexByteString", "internal/bytealg.CountString", "internal/bytealg.IndexString"], unfollowed := true, recurses := true, named := ["unicode/utf8.first", "unicode/utf8.acceptRanges", "internal/bytealg.MaxLen"], plainKeys := false, apart := false, laid := [("unicode/utf8.acceptRanges", laid_unicode_utf8_acceptRanges), ("unicode/utf8.first", laid_unicode_utf8_first)] }
def WildmatNilSaid : Prop := wildmatNilRow.holds Tryd.pinned (OpenSpec.ofChange wildmatNilSpec)

/-- ITS FALSE NEIGHBOUR: 'it returns false'. Refute it at one input. -/
def wildmatNilWrong : ChangeSpec := { name := "wildmatNil", fn := fun _ => fun
  | [d1, d2] => { results := [.lit (.bool false)], args := [d1, d2] }
  | _ => none }
def WildmatNilWrongFalsely : Prop := wildmatNilRow.holds Tryd.pinned (OpenSpec.ofChange wildmatNilWrong)

/- THE SECOND FORM. 'bulk': how many values and letters a reading holds, each counted each time it is reached (what is shared counts as often as it is met; a slice's spare places count too). A statement '..UptoSaid' is the law's where the arguments, and the package variables that the reading takes, are together of bulk at most 1048576: NARROWER than '..Said'. Prove '..Said' where nothing that the law and all that it calls make is longer than what came in: it says more and counts as full. Else prove '..UptoSaid'. A law counts once. -/
mutual
def uptoBulk {H : Type} : DataW H → Nat
  | .lit (.string bytes) => bytes.length + 1
  | .lit _ => 1
  | .nil => 1
  | .ptr d => uptoBulk d + 1
  | .slice elems spare => uptoBulkAll elems + uptoBulkAll spare + 1
  | .agg parts => uptoBulkAll parts + 1
  | .iface _ d => uptoBulk d + 1
  | .map entries => uptoBulkEntries entries + 1
  | .held _ => 1
def uptoBulkAll {H : Type} : List (DataW H) → Nat
  | [] => 0
  | d :: r => uptoBulk d + uptoBulkAll r
def uptoBulkEntries {H : Type} : List (Lit × DataW H) → Nat
  | [] => 0
  | x :: r => uptoBulkEntry x + uptoBulkEntries r
def uptoBulkEntry {H : Type} : Lit × DataW H → Nat
  | (.string bytes, d) => bytes.length + uptoBulk d + 1
  | (_, d) => uptoBulk d + 1
 end
def uptoSmall : (H : Type) → List (DataW H) → Bool := fun _ ds => decide (uptoBulkAll ds ≤ 1048576)
def OpenSpec.upto (s : _root_.Go.ChangeSpec) : _root_.Go.OpenSpec := { _root_.Go.OpenSpec.ofChange s with cond := some uptoSmall }

/-- 'bulletinlaw13.WildmatMatches', WHERE WHAT IT READS IS OF BULK AT MOST 1048576: true; the input reads as it did. -/
def wildmatMatchesUptoRow : OpenClaim := { program := "ytgnmanmlnbidfaadoor", sum := "043409dfb957546f0dc8403c346e19ad11b392db9d410d919f61cae66843a82a", func := "bulletin/bulletinlaw13.WildmatMatches", spec := "wildmatMatches", inPlace := ["internal/bytealg.IndexByteString", "internal/bytealg.CountString", "internal/bytealg.IndexString"], unfollowed := true, recurses := true, named := ["unicode/utf8.first", "unicode/utf8.acceptRanges", "internal/bytealg.MaxLen"], plainKeys := false, apart := false, laid := [("unicode/utf8.acceptRanges", laid_unicode_utf8_acceptRanges), ("unicode/utf8.first", laid_unicode_utf8_first)], narrowed := true }
def WildmatMatchesUptoSaid : Prop := wildmatMatchesUptoRow.holds Tryd.pinned (OpenSpec.upto wildmatMatchesSpec)

/-- 'bulletinlaw13.WildmatLiterals', WHERE WHAT IT READS IS OF BULK AT MOST 1048576: true; the input reads as it did. -/
def wildmatLiteralsUptoRow : OpenClaim := { program := "ytgnmanmlnbidfaadoor", sum := "043409dfb957546f0dc8403c346e19ad11b392db9d410d919f61cae66843a82a", func := "bulletin/bulletinlaw13.WildmatLiterals", spec := "wildmatLiterals", inPlace := ["internal/bytealg.IndexByteString", "internal/bytealg.CountString", "internal/bytealg.IndexString"], unfollowed := true, recurses := true, named := ["unicode/utf8.first", "unicode/utf8.acceptRanges", "internal/bytealg.MaxLen"], plainKeys := false, apart := false, laid := [("unicode/utf8.acceptRanges", laid_unicode_utf8_acceptRanges), ("unicode/utf8.first", laid_unicode_utf8_first)], narrowed := true }
def WildmatLiteralsUptoSaid : Prop := wildmatLiteralsUptoRow.holds Tryd.pinned (OpenSpec.upto wildmatLiteralsSpec)

/-- 'bulletinlaw13.WildmatCommon', WHERE WHAT IT READS IS OF BULK AT MOST 1048576: true; the input reads as it did. -/
def wildmatCommonUptoRow : OpenClaim := { program := "ytgnmanmlnbidfaadoor", sum := "043409dfb957546f0dc8403c346e19ad11b392db9d410d919f61cae66843a82a", func := "bulletin/bulletinlaw13.WildmatCommon", spec := "wildmatCommon", inPlace := ["internal/bytealg.IndexByteString", "internal/bytealg.CountString", "internal/bytealg.IndexString"], unfollowed := true, recurses := true, named := ["unicode/utf8.first", "unicode/utf8.acceptRanges", "internal/bytealg.MaxLen"], plainKeys := false, apart := false, laid := [("unicode/utf8.acceptRanges", laid_unicode_utf8_acceptRanges), ("unicode/utf8.first", laid_unicode_utf8_first)], narrowed := true }
def WildmatCommonUptoSaid : Prop := wildmatCommonUptoRow.holds Tryd.pinned (OpenSpec.upto wildmatCommonSpec)

/-- 'bulletinlaw13.WildmatDisjoint', WHERE WHAT IT READS IS OF BULK AT MOST 1048576: true; the input reads as it did. -/
def wildmatDisjointUptoRow : OpenClaim := { program := "ytgnmanmlnbidfaadoor", sum := "043409dfb957546f0dc8403c346e19ad11b392db9d410d919f61cae66843a82a", func := "bulletin/bulletinlaw13.WildmatDisjoint", spec := "wildmatDisjoint", inPlace := ["internal/bytealg.IndexByteString", "internal/bytealg.CountString", "internal/bytealg.IndexString"], unfollowed := true, recurses := true, named := ["unicode/utf8.first", "unicode/utf8.acceptRanges", "internal/bytealg.MaxLen"], plainKeys := false, apart := false, laid := [("unicode/utf8.acceptRanges", laid_unicode_utf8_acceptRanges), ("unicode/utf8.first", laid_unicode_utf8_first)], narrowed := true }
def WildmatDisjointUptoSaid : Prop := wildmatDisjointUptoRow.holds Tryd.pinned (OpenSpec.upto wildmatDisjointSpec)

/-- 'bulletinlaw13.WildmatVerdicts', WHERE WHAT IT READS IS OF BULK AT MOST 1048576: true; the input reads as it did. -/
def wildmatVerdictsUptoRow : OpenClaim := { program := "ytgnmanmlnbidfaadoor", sum := "043409dfb957546f0dc8403c346e19ad11b392db9d410d919f61cae66843a82a", func := "bulletin/bulletinlaw13.WildmatVerdicts", spec := "wildmatVerdicts", inPlace := ["internal/bytealg.CountString", "internal/bytealg.IndexByteString", "internal/bytealg.IndexString"], unfollowed := true, recurses := true, named := ["unicode/utf8.first", "unicode/utf8.acceptRanges", "internal/bytealg.MaxLen"], plainKeys := false, apart := false, laid := [("unicode/utf8.acceptRanges", laid_unicode_utf8_acceptRanges), ("unicode/utf8.first", laid_unicode_utf8_first)], narrowed := true }
def WildmatVerdictsUptoSaid : Prop := wildmatVerdictsUptoRow.holds Tryd.pinned (OpenSpec.upto wildmatVerdictsSpec)

/-- 'bulletinlaw13.WildmatAppends', WHERE WHAT IT READS IS OF BULK AT MOST 1048576: true; the input reads as it did. -/
def wildmatAppendsUptoRow : OpenClaim := { program := "ytgnmanmlnbidfaadoor", sum := "043409dfb957546f0dc8403c346e19ad11b392db9d410d919f61cae66843a82a", func := "bulletin/bulletinlaw13.WildmatAppends", spec := "wildmatAppends", inPlace := ["internal/bytealg.CountString", "internal/bytealg.IndexByteString", "internal/bytealg.IndexString"], unfollowed := true, recurses := true, named := ["unicode/utf8.first", "unicode/utf8.acceptRanges", "internal/bytealg.MaxLen"], plainKeys := false, apart := false, laid := [("unicode/utf8.acceptRanges", laid_unicode_utf8_acceptRanges), ("unicode/utf8.first", laid_unicode_utf8_first)], narrowed := true }
def WildmatAppendsUptoSaid : Prop := wildmatAppendsUptoRow.holds Tryd.pinned (OpenSpec.upto wildmatAppendsSpec)

/-- 'bulletinlaw13.WildmatSelects', WHERE WHAT IT READS IS OF BULK AT MOST 1048576: true; the input reads as it did. -/
def wildmatSelectsUptoRow : OpenClaim := { program := "ytgnmanmlnbidfaadoor", sum := "043409dfb957546f0dc8403c346e19ad11b392db9d410d919f61cae66843a82a", func := "bulletin/bulletinlaw13.WildmatSelects", spec := "wildmatSelects", inPlace := ["internal/bytealg.CountString", "internal/bytealg.IndexByteString", "internal/bytealg.IndexString"], unfollowed := true, recurses := true, named := ["unicode/utf8.first", "unicode/utf8.acceptRanges", "internal/bytealg.MaxLen"], plainKeys := false, apart := false, laid := [("unicode/utf8.acceptRanges", laid_unicode_utf8_acceptRanges), ("unicode/utf8.first", laid_unicode_utf8_first)], narrowed := true }
def WildmatSelectsUptoSaid : Prop := wildmatSelectsUptoRow.holds Tryd.pinned (OpenSpec.upto wildmatSelectsSpec)

/-- 'bulletinlaw13.WildmatNil', WHERE WHAT IT READS IS OF BULK AT MOST 1048576: true; the input reads as it did. -/
def wildmatNilUptoRow : OpenClaim := { program := "ytgnmanmlnbidfaadoor", sum := "043409dfb957546f0dc8403c346e19ad11b392db9d410d919f61cae66843a82a", func := "bulletin/bulletinlaw13.WildmatNil", spec := "wildmatNil", inPlace := ["internal/bytealg.IndexByteString", "internal/bytealg.CountString", "internal/bytealg.IndexString"], unfollowed := true, recurses := true, named := ["unicode/utf8.first", "unicode/utf8.acceptRanges", "internal/bytealg.MaxLen"], plainKeys := false, apart := false, laid := [("unicode/utf8.acceptRanges", laid_unicode_utf8_acceptRanges), ("unicode/utf8.first", laid_unicode_utf8_first)], narrowed := true }
def WildmatNilUptoSaid : Prop := wildmatNilUptoRow.holds Tryd.pinned (OpenSpec.upto wildmatNilSpec)

end Rows
end Go.Proofs.YtgnmanmlnbidfaaDoor
