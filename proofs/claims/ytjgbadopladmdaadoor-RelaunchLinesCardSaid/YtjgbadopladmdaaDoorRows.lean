/-
  NARROWER THAN 'FOR EVERY INPUT', by the rows' own cells (each row's printed sentence says how): ProductDigits: laid · ProductChanges: laid · RelaunchRenames: laid · RelaunchKeeps: laid · ProductApart: laid · ProductNormal: laid · ProductDiffers: laid · RelaunchValid: laid · RelaunchMany: laid · RelaunchLines: laid · ProductKeys: laid.
  DERIVED. THE GIVEN ROWS OF THIS SEAT. 11 by the template 'for every input the law returns true; each argument reads behind the call as it read before'; 0 by the template 'total and deterministic' (their statements: YtjgbadopladmdaaDoorTotals.lean).
  GIVEN WITH THE SEED: the statements are not yours to turn. If you find one false, say at which input.
  Laid BY PROGRAM, IN A SANDBOX (cutbox-rows.mjs): the forced cells as the released guide's own fill.sh prints them over the translation a1f780c480e598c8… (all of the seat's roots in one cut). By AI agents, Wed Nov 11 2026. No macro, syntax, notation, axiom, sorry.
-/
import Derived.Test.YtjgbadopladmdaaDoorChecked
import GoSem.PinnedTables
import GoSem.Claim
import GoSem.ClaimJoined
import GoSem.ClaimMapViews
import Derived.JoinedTies
import Derived.KernelRfl
namespace Go.Proofs.YtjgbadopladmdaaDoor
/- THE CELL 'sum', in the pinned program and in every row, IS THE sha256 OF THE DUMP (.gsa) THAT YtjgbadopladmdaaDoorProg.lean LOADS. Nothing in Lean hashes anything: it is a label: what it is worth is what the hold of that sum in a sandbox is worth. -/
noncomputable def Tryd.pinned : Pinned := { name := "ytjgbadopladmdaadoor", sum := "a1f780c480e598c80fec79ac6a21b15d57a07c16077c538f53045d8bb426aeae", checked := Tryd.checked }
namespace Rows
def none {H : Type} : Left H := { results := [], args := [] }

/- WHAT THE LISTED PACKAGE-LEVEL VARIABLES READ AS WHEN THE CALL BEGINS. Each datum BY PROGRAM (the guide's laid-datum.mjs) off the statement by which the dump's own 'gosem.cut.vars' lays the variable. In a bare row this is a premise. The card (YtjgbadopladmdaaDoorCards.lean) ties it to the program's text. -/
def laid_unicode_utf8_acceptRanges {H : Type} : DataW H := .agg [.agg [.lit (.int .u8 128), .lit (.int .u8 191)], .agg [.lit (.int .u8 160), .lit (.int .u8 191)], .agg [.lit (.int .u8 128), .lit (.int .u8 159)], .agg [.lit (.int .u8 144), .lit (.int .u8 191)], .agg [.lit (.int .u8 128), .lit (.int .u8 143)], .agg [.lit (.int .u8 0), .lit (.int .u8 0)], .agg [.lit (.int .u8 0), .lit (.int .u8 0)], .agg [.lit (.int .u8 0), .lit (.int .u8 0)], .agg [.lit (.int .u8 0), .lit (.int .u8 0)], .agg [.lit (.int .u8 0), .lit (.int .u8 0)], .agg [.lit (.int .u8 0), .lit (.int .u8 0)], .agg [.lit (.int .u8 0), .lit (.int .u8 0)], .agg [.lit (.int .u8 0), .lit (.int .u8 0)], .agg [.lit (.int .u8 0), .lit (.int .u8 0)], .agg [.lit (.int .u8 0), .lit (.int .u8 0)], .agg [.lit (.int .u8 0), .lit (.int .u8 0)]]
/-- One of Go's own tables, pinned by name: the form's constant. -/
def laid_unicode_utf8_first : DataW Unit := Go.Pinned.utf8First

/-- 'priceofficelaw09.ProductDigits': WHATEVER THE INPUT: true; the input reads as it did. -/
def productDigitsSpec : ChangeSpec := { name := "productDigits", fn := fun _ => fun
  | [d] => { results := [.lit (.bool true)], args := [d] }
  | _ => none }
def productDigitsRow : OpenClaim := { program := "ytjgbadopladmdaadoor", sum := "a1f780c480e598c80fec79ac6a21b15d57a07c16077c538f53045d8bb426aeae", func := "priceoffice/priceofficelaw09.ProductDigits", spec := "productDigits", inPlace := ["internal/bytealg.IndexByteString", "internal/bytealg.IndexString"], named := ["unicode/utf8.first", "unicode/utf8.acceptRanges", "internal/bytealg.MaxLen"], plainKeys := false, apart := false, laid := [("unicode/utf8.acceptRanges", laid_unicode_utf8_acceptRanges), ("unicode/utf8.first", laid_unicode_utf8_first)] }
def ProductDigitsSaid : Prop := productDigitsRow.holds Tryd.pinned (OpenSpec.ofChange productDigitsSpec)

/-- ITS FALSE NEIGHBOUR: 'it returns false'. Refute it at one input. -/
def productDigitsWrong : ChangeSpec := { name := "productDigits", fn := fun _ => fun
  | [d] => { results := [.lit (.bool false)], args := [d] }
  | _ => none }
def ProductDigitsWrongFalsely : Prop := productDigitsRow.holds Tryd.pinned (OpenSpec.ofChange productDigitsWrong)

/-- 'priceofficelaw09.ProductChanges': WHATEVER THE INPUT: true; the input reads as it did. -/
def productChangesSpec : ChangeSpec := { name := "productChanges", fn := fun _ => fun
  | [d1, d2, d3, d4] => { results := [.lit (.bool true)], args := [d1, d2, d3, d4] }
  | _ => none }
def productChangesRow : OpenClaim := { program := "ytjgbadopladmdaadoor", sum := "a1f780c480e598c80fec79ac6a21b15d57a07c16077c538f53045d8bb426aeae", func := "priceoffice/priceofficelaw09.ProductChanges", spec := "productChanges", inPlace := ["internal/bytealg.IndexByteString", "internal/bytealg.IndexString"], named := ["unicode/utf8.first", "unicode/utf8.acceptRanges", "internal/bytealg.MaxLen"], plainKeys := false, apart := false, laid := [("unicode/utf8.acceptRanges", laid_unicode_utf8_acceptRanges), ("unicode/utf8.first", laid_unicode_utf8_first)] }
def ProductChangesSaid : Prop := productChangesRow.holds Tryd.pinned (OpenSpec.ofChange productChangesSpec)

/-- ITS FALSE NEIGHBOUR: 'it returns false'. Refute it at one input. -/
def productChangesWrong : ChangeSpec := { name := "productChanges", fn := fun _ => fun
  | [d1, d2, d3, d4] => { results := [.lit (.bool false)], args := [d1, d2, d3, d4] }
  | _ => none }
def ProductChangesWrongFalsely : Prop := productChangesRow.holds Tryd.pinned (OpenSpec.ofChange productChangesWrong)

/-- 'priceofficelaw18.RelaunchRenames': WHATEVER THE INPUT: true; the input reads as it did. -/
def relaunchRenamesSpec : ChangeSpec := { name := "relaunchRenames", fn := fun _ => fun
  | [d1, d2, d3] => { results := [.lit (.bool true)], args := [d1, d2, d3] }
  | _ => none }
def relaunchRenamesRow : OpenClaim := { program := "ytjgbadopladmdaadoor", sum := "a1f780c480e598c80fec79ac6a21b15d57a07c16077c538f53045d8bb426aeae", func := "priceoffice/priceofficelaw18.RelaunchRenames", spec := "relaunchRenames", inPlace := ["internal/bytealg.IndexByteString", "internal/bytealg.IndexString"], unfollowed := true, recurses := true, named := ["unicode/utf8.first", "unicode/utf8.acceptRanges", "internal/bytealg.MaxLen"], plainKeys := false, apart := false, laid := [("unicode/utf8.acceptRanges", laid_unicode_utf8_acceptRanges), ("unicode/utf8.first", laid_unicode_utf8_first)] }
def RelaunchRenamesSaid : Prop := relaunchRenamesRow.holds Tryd.pinned (OpenSpec.ofChange relaunchRenamesSpec)

/-- ITS FALSE NEIGHBOUR: 'it returns false'. Refute it at one input. -/
def relaunchRenamesWrong : ChangeSpec := { name := "relaunchRenames", fn := fun _ => fun
  | [d1, d2, d3] => { results := [.lit (.bool false)], args := [d1, d2, d3] }
  | _ => none }
def RelaunchRenamesWrongFalsely : Prop := relaunchRenamesRow.holds Tryd.pinned (OpenSpec.ofChange relaunchRenamesWrong)

/-- 'priceofficelaw18.RelaunchKeeps': WHATEVER THE INPUT: true; the input reads as it did. -/
def relaunchKeepsSpec : ChangeSpec := { name := "relaunchKeeps", fn := fun _ => fun
  | [d] => { results := [.lit (.bool true)], args := [d] }
  | _ => none }
def relaunchKeepsRow : OpenClaim := { program := "ytjgbadopladmdaadoor", sum := "a1f780c480e598c80fec79ac6a21b15d57a07c16077c538f53045d8bb426aeae", func := "priceoffice/priceofficelaw18.RelaunchKeeps", spec := "relaunchKeeps", inPlace := ["internal/bytealg.IndexByteString", "internal/bytealg.IndexString"], unfollowed := true, recurses := true, named := ["unicode/utf8.first", "unicode/utf8.acceptRanges", "internal/bytealg.MaxLen"], plainKeys := false, apart := false, laid := [("unicode/utf8.acceptRanges", laid_unicode_utf8_acceptRanges), ("unicode/utf8.first", laid_unicode_utf8_first)] }
def RelaunchKeepsSaid : Prop := relaunchKeepsRow.holds Tryd.pinned (OpenSpec.ofChange relaunchKeepsSpec)

/-- ITS FALSE NEIGHBOUR: 'it returns false'. Refute it at one input. -/
def relaunchKeepsWrong : ChangeSpec := { name := "relaunchKeeps", fn := fun _ => fun
  | [d] => { results := [.lit (.bool false)], args := [d] }
  | _ => none }
def RelaunchKeepsWrongFalsely : Prop := relaunchKeepsRow.holds Tryd.pinned (OpenSpec.ofChange relaunchKeepsWrong)

/-- 'priceofficelaw09.ProductApart': WHATEVER THE INPUT: true; the input reads as it did. -/
def productApartSpec : ChangeSpec := { name := "productApart", fn := fun _ => fun
  | [d] => { results := [.lit (.bool true)], args := [d] }
  | _ => none }
def productApartRow : OpenClaim := { program := "ytjgbadopladmdaadoor", sum := "a1f780c480e598c80fec79ac6a21b15d57a07c16077c538f53045d8bb426aeae", func := "priceoffice/priceofficelaw09.ProductApart", spec := "productApart", inPlace := ["internal/bytealg.abigen_runtime_cmpstring", "internal/bytealg.IndexByteString", "internal/bytealg.IndexString"], unfollowed := true, recurses := true, named := ["unicode/utf8.first", "unicode/utf8.acceptRanges", "internal/bytealg.MaxLen"], plainKeys := false, apart := false, laid := [("unicode/utf8.acceptRanges", laid_unicode_utf8_acceptRanges), ("unicode/utf8.first", laid_unicode_utf8_first)] }
def ProductApartSaid : Prop := productApartRow.holds Tryd.pinned (OpenSpec.ofChange productApartSpec)

/-- ITS FALSE NEIGHBOUR: 'it returns false'. Refute it at one input. -/
def productApartWrong : ChangeSpec := { name := "productApart", fn := fun _ => fun
  | [d] => { results := [.lit (.bool false)], args := [d] }
  | _ => none }
def ProductApartWrongFalsely : Prop := productApartRow.holds Tryd.pinned (OpenSpec.ofChange productApartWrong)

/-- 'priceofficelaw09.ProductNormal': WHATEVER THE INPUT: true; the input reads as it did. -/
def productNormalSpec : ChangeSpec := { name := "productNormal", fn := fun _ => fun
  | [d1, d2] => { results := [.lit (.bool true)], args := [d1, d2] }
  | _ => none }
def productNormalRow : OpenClaim := { program := "ytjgbadopladmdaadoor", sum := "a1f780c480e598c80fec79ac6a21b15d57a07c16077c538f53045d8bb426aeae", func := "priceoffice/priceofficelaw09.ProductNormal", spec := "productNormal", inPlace := ["internal/bytealg.abigen_runtime_cmpstring", "internal/abi.NoEscape", "internal/bytealg.MakeNoZero", "internal/bytealg.IndexByteString", "internal/bytealg.IndexString"], unfollowed := true, recurses := true, named := ["unicode/utf8.first", "unicode/utf8.acceptRanges", "internal/bytealg.MaxLen"], plainKeys := false, apart := false, laid := [("unicode/utf8.acceptRanges", laid_unicode_utf8_acceptRanges), ("unicode/utf8.first", laid_unicode_utf8_first)] }
def ProductNormalSaid : Prop := productNormalRow.holds Tryd.pinned (OpenSpec.ofChange productNormalSpec)

/-- ITS FALSE NEIGHBOUR: 'it returns false'. Refute it at one input. -/
def productNormalWrong : ChangeSpec := { name := "productNormal", fn := fun _ => fun
  | [d1, d2] => { results := [.lit (.bool false)], args := [d1, d2] }
  | _ => none }
def ProductNormalWrongFalsely : Prop := productNormalRow.holds Tryd.pinned (OpenSpec.ofChange productNormalWrong)

/-- 'priceofficelaw09.ProductDiffers': WHATEVER THE INPUT: true; the input reads as it did. -/
def productDiffersSpec : ChangeSpec := { name := "productDiffers", fn := fun _ => fun
  | [d1, d2, d3] => { results := [.lit (.bool true)], args := [d1, d2, d3] }
  | _ => none }
def productDiffersRow : OpenClaim := { program := "ytjgbadopladmdaadoor", sum := "a1f780c480e598c80fec79ac6a21b15d57a07c16077c538f53045d8bb426aeae", func := "priceoffice/priceofficelaw09.ProductDiffers", spec := "productDiffers", inPlace := ["internal/bytealg.IndexByteString", "internal/bytealg.IndexString"], recurses := true, named := ["unicode/utf8.first", "unicode/utf8.acceptRanges", "internal/bytealg.MaxLen"], plainKeys := false, apart := false, laid := [("unicode/utf8.acceptRanges", laid_unicode_utf8_acceptRanges), ("unicode/utf8.first", laid_unicode_utf8_first)] }
def ProductDiffersSaid : Prop := productDiffersRow.holds Tryd.pinned (OpenSpec.ofChange productDiffersSpec)

/-- ITS FALSE NEIGHBOUR: 'it returns false'. Refute it at one input. -/
def productDiffersWrong : ChangeSpec := { name := "productDiffers", fn := fun _ => fun
  | [d1, d2, d3] => { results := [.lit (.bool false)], args := [d1, d2, d3] }
  | _ => none }
def ProductDiffersWrongFalsely : Prop := productDiffersRow.holds Tryd.pinned (OpenSpec.ofChange productDiffersWrong)

/-- 'priceofficelaw18.RelaunchValid': WHATEVER THE INPUT: true; the input reads as it did. -/
def relaunchValidSpec : ChangeSpec := { name := "relaunchValid", fn := fun _ => fun
  | [d1, d2, d3] => { results := [.lit (.bool true)], args := [d1, d2, d3] }
  | _ => none }
def relaunchValidRow : OpenClaim := { program := "ytjgbadopladmdaadoor", sum := "a1f780c480e598c80fec79ac6a21b15d57a07c16077c538f53045d8bb426aeae", func := "priceoffice/priceofficelaw18.RelaunchValid", spec := "relaunchValid", inPlace := ["internal/bytealg.IndexByteString", "internal/bytealg.IndexString", "internal/bytealg.abigen_runtime_cmpstring"], unfollowed := true, recurses := true, named := ["unicode/utf8.first", "unicode/utf8.acceptRanges", "internal/bytealg.MaxLen"], plainKeys := false, apart := false, laid := [("unicode/utf8.acceptRanges", laid_unicode_utf8_acceptRanges), ("unicode/utf8.first", laid_unicode_utf8_first)] }
def RelaunchValidSaid : Prop := relaunchValidRow.holds Tryd.pinned (OpenSpec.ofChange relaunchValidSpec)

/-- ITS FALSE NEIGHBOUR: 'it returns false'. Refute it at one input. -/
def relaunchValidWrong : ChangeSpec := { name := "relaunchValid", fn := fun _ => fun
  | [d1, d2, d3] => { results := [.lit (.bool false)], args := [d1, d2, d3] }
  | _ => none }
def RelaunchValidWrongFalsely : Prop := relaunchValidRow.holds Tryd.pinned (OpenSpec.ofChange relaunchValidWrong)

/-- 'priceofficelaw18.RelaunchMany': WHATEVER THE INPUT: true; the input reads as it did. -/
def relaunchManySpec : ChangeSpec := { name := "relaunchMany", fn := fun _ => fun
  | [d1, d2] => { results := [.lit (.bool true)], args := [d1, d2] }
  | _ => none }
def relaunchManyRow : OpenClaim := { program := "ytjgbadopladmdaadoor", sum := "a1f780c480e598c80fec79ac6a21b15d57a07c16077c538f53045d8bb426aeae", func := "priceoffice/priceofficelaw18.RelaunchMany", spec := "relaunchMany", inPlace := ["internal/bytealg.IndexByteString", "internal/bytealg.IndexString", "internal/bytealg.abigen_runtime_cmpstring"], unfollowed := true, recurses := true, named := ["unicode/utf8.first", "unicode/utf8.acceptRanges", "internal/bytealg.MaxLen"], plainKeys := false, apart := false, laid := [("unicode/utf8.acceptRanges", laid_unicode_utf8_acceptRanges), ("unicode/utf8.first", laid_unicode_utf8_first)] }
def RelaunchManySaid : Prop := relaunchManyRow.holds Tryd.pinned (OpenSpec.ofChange relaunchManySpec)

/-- ITS FALSE NEIGHBOUR: 'it returns false'. Refute it at one input. -/
def relaunchManyWrong : ChangeSpec := { name := "relaunchMany", fn := fun _ => fun
  | [d1, d2] => { results := [.lit (.bool false)], args := [d1, d2] }
  | _ => none }
def RelaunchManyWrongFalsely : Prop := relaunchManyRow.holds Tryd.pinned (OpenSpec.ofChange relaunchManyWrong)

/-- 'priceofficelaw18.RelaunchLines': WHATEVER THE INPUT: true; the input reads as it did. -/
def relaunchLinesSpec : ChangeSpec := { name := "relaunchLines", fn := fun _ => fun
  | [d] => { results := [.lit (.bool true)], args := [d] }
  | _ => none }
def relaunchLinesRow : OpenClaim := { program := "ytjgbadopladmdaadoor", sum := "a1f780c480e598c80fec79ac6a21b15d57a07c16077c538f53045d8bb426aeae", func := "priceoffice/priceofficelaw18.RelaunchLines", spec := "relaunchLines", inPlace := ["internal/bytealg.IndexByteString", "internal/bytealg.IndexString", "internal/bytealg.abigen_runtime_cmpstring"], unfollowed := true, recurses := true, named := ["unicode/utf8.first", "unicode/utf8.acceptRanges", "internal/bytealg.MaxLen"], plainKeys := false, apart := false, laid := [("unicode/utf8.acceptRanges", laid_unicode_utf8_acceptRanges), ("unicode/utf8.first", laid_unicode_utf8_first)] }
def RelaunchLinesSaid : Prop := relaunchLinesRow.holds Tryd.pinned (OpenSpec.ofChange relaunchLinesSpec)

/-- ITS FALSE NEIGHBOUR: 'it returns false'. Refute it at one input. -/
def relaunchLinesWrong : ChangeSpec := { name := "relaunchLines", fn := fun _ => fun
  | [d] => { results := [.lit (.bool false)], args := [d] }
  | _ => none }
def RelaunchLinesWrongFalsely : Prop := relaunchLinesRow.holds Tryd.pinned (OpenSpec.ofChange relaunchLinesWrong)

/-- 'priceofficelaw09.ProductKeys': WHATEVER THE INPUT: true; the input reads as it did. -/
def productKeysSpec : ChangeSpec := { name := "productKeys", fn := fun _ => fun
  | [d] => { results := [.lit (.bool true)], args := [d] }
  | _ => none }
def productKeysRow : OpenClaim := { program := "ytjgbadopladmdaadoor", sum := "a1f780c480e598c80fec79ac6a21b15d57a07c16077c538f53045d8bb426aeae", func := "priceoffice/priceofficelaw09.ProductKeys", spec := "productKeys", inPlace := ["internal/bytealg.abigen_runtime_cmpstring", "internal/abi.NoEscape", "internal/bytealg.MakeNoZero", "internal/bytealg.IndexByteString", "internal/bytealg.IndexString"], unfollowed := true, recurses := true, named := ["unicode/utf8.first", "unicode/utf8.acceptRanges", "internal/bytealg.MaxLen"], plainKeys := false, apart := false, laid := [("unicode/utf8.acceptRanges", laid_unicode_utf8_acceptRanges), ("unicode/utf8.first", laid_unicode_utf8_first)] }
def ProductKeysSaid : Prop := productKeysRow.holds Tryd.pinned (OpenSpec.ofChange productKeysSpec)

/-- ITS FALSE NEIGHBOUR: 'it returns false'. Refute it at one input. -/
def productKeysWrong : ChangeSpec := { name := "productKeys", fn := fun _ => fun
  | [d] => { results := [.lit (.bool false)], args := [d] }
  | _ => none }
def ProductKeysWrongFalsely : Prop := productKeysRow.holds Tryd.pinned (OpenSpec.ofChange productKeysWrong)

/- THE SECOND FORM. 'bulk': how many values and letters a reading holds, each counted each time it is reached (what is shared counts as often as it is met; a slice's spare places count too). A statement '..UptoSaid' is the law's where the arguments, and the package variables that the reading takes, are together of bulk at most 1048576: NARROWER than '..Said'. Prove '..Said' where nothing that the law and all that it calls make is longer than what came in: it says more and counts as full. Else prove '..UptoSaid'. A law counts once. -/
mutual
def uptoBulk {H : Type} : DataW H → Nat
  | .lit (.string bytes) => bytes.length + 1
  | .lit _ => 1
  | .nil => 1
  | .ptr d => uptoBulk d + 1
  | .slice elems spare => uptoBulkAll elems + uptoBulkAll spare + 1
  | .agg parts => uptoBulkAll parts + 1
  | .iface _ d => uptoBulk d + 1
  | .map entries => uptoBulkEntries entries + 1
  | .held _ => 1
def uptoBulkAll {H : Type} : List (DataW H) → Nat
  | [] => 0
  | d :: r => uptoBulk d + uptoBulkAll r
def uptoBulkEntries {H : Type} : List (Lit × DataW H) → Nat
  | [] => 0
  | x :: r => uptoBulkEntry x + uptoBulkEntries r
def uptoBulkEntry {H : Type} : Lit × DataW H → Nat
  | (.string bytes, d) => bytes.length + uptoBulk d + 1
  | (_, d) => uptoBulk d + 1
 end
def uptoSmall : (H : Type) → List (DataW H) → Bool := fun _ ds => decide (uptoBulkAll ds ≤ 1048576)
def OpenSpec.upto (s : _root_.Go.ChangeSpec) : _root_.Go.OpenSpec := { _root_.Go.OpenSpec.ofChange s with cond := some uptoSmall }

/-- 'priceofficelaw09.ProductDigits', WHERE WHAT IT READS IS OF BULK AT MOST 1048576: true; the input reads as it did. -/
def productDigitsUptoRow : OpenClaim := { program := "ytjgbadopladmdaadoor", sum := "a1f780c480e598c80fec79ac6a21b15d57a07c16077c538f53045d8bb426aeae", func := "priceoffice/priceofficelaw09.ProductDigits", spec := "productDigits", inPlace := ["internal/bytealg.IndexByteString", "internal/bytealg.IndexString"], named := ["unicode/utf8.first", "unicode/utf8.acceptRanges", "internal/bytealg.MaxLen"], plainKeys := false, apart := false, laid := [("unicode/utf8.acceptRanges", laid_unicode_utf8_acceptRanges), ("unicode/utf8.first", laid_unicode_utf8_first)], narrowed := true }
def ProductDigitsUptoSaid : Prop := productDigitsUptoRow.holds Tryd.pinned (OpenSpec.upto productDigitsSpec)

/-- 'priceofficelaw09.ProductChanges', WHERE WHAT IT READS IS OF BULK AT MOST 1048576: true; the input reads as it did. -/
def productChangesUptoRow : OpenClaim := { program := "ytjgbadopladmdaadoor", sum := "a1f780c480e598c80fec79ac6a21b15d57a07c16077c538f53045d8bb426aeae", func := "priceoffice/priceofficelaw09.ProductChanges", spec := "productChanges", inPlace := ["internal/bytealg.IndexByteString", "internal/bytealg.IndexString"], named := ["unicode/utf8.first", "unicode/utf8.acceptRanges", "internal/bytealg.MaxLen"], plainKeys := false, apart := false, laid := [("unicode/utf8.acceptRanges", laid_unicode_utf8_acceptRanges), ("unicode/utf8.first", laid_unicode_utf8_first)], narrowed := true }
def ProductChangesUptoSaid : Prop := productChangesUptoRow.holds Tryd.pinned (OpenSpec.upto productChangesSpec)

/-- 'priceofficelaw18.RelaunchRenames', WHERE WHAT IT READS IS OF BULK AT MOST 1048576: true; the input reads as it did. -/
def relaunchRenamesUptoRow : OpenClaim := { program := "ytjgbadopladmdaadoor", sum := "a1f780c480e598c80fec79ac6a21b15d57a07c16077c538f53045d8bb426aeae", func := "priceoffice/priceofficelaw18.RelaunchRenames", spec := "relaunchRenames", inPlace := ["internal/bytealg.IndexByteString", "internal/bytealg.IndexString"], unfollowed := true, recurses := true, named := ["unicode/utf8.first", "unicode/utf8.acceptRanges", "internal/bytealg.MaxLen"], plainKeys := false, apart := false, laid := [("unicode/utf8.acceptRanges", laid_unicode_utf8_acceptRanges), ("unicode/utf8.first", laid_unicode_utf8_first)], narrowed := true }
def RelaunchRenamesUptoSaid : Prop := relaunchRenamesUptoRow.holds Tryd.pinned (OpenSpec.upto relaunchRenamesSpec)

/-- 'priceofficelaw18.RelaunchKeeps', WHERE WHAT IT READS IS OF BULK AT MOST 1048576: true; the input reads as it did. -/
def relaunchKeepsUptoRow : OpenClaim := { program := "ytjgbadopladmdaadoor", sum := "a1f780c480e598c80fec79ac6a21b15d57a07c16077c538f53045d8bb426aeae", func := "priceoffice/priceofficelaw18.RelaunchKeeps", spec := "relaunchKeeps", inPlace := ["internal/bytealg.IndexByteString", "internal/bytealg.IndexString"], unfollowed := true, recurses := true, named := ["unicode/utf8.first", "unicode/utf8.acceptRanges", "internal/bytealg.MaxLen"], plainKeys := false, apart := false, laid := [("unicode/utf8.acceptRanges", laid_unicode_utf8_acceptRanges), ("unicode/utf8.first", laid_unicode_utf8_first)], narrowed := true }
def RelaunchKeepsUptoSaid : Prop := relaunchKeepsUptoRow.holds Tryd.pinned (OpenSpec.upto relaunchKeepsSpec)

/-- 'priceofficelaw09.ProductApart', WHERE WHAT IT READS IS OF BULK AT MOST 1048576: true; the input reads as it did. -/
def productApartUptoRow : OpenClaim := { program := "ytjgbadopladmdaadoor", sum := "a1f780c480e598c80fec79ac6a21b15d57a07c16077c538f53045d8bb426aeae", func := "priceoffice/priceofficelaw09.ProductApart", spec := "productApart", inPlace := ["internal/bytealg.abigen_runtime_cmpstring", "internal/bytealg.IndexByteString", "internal/bytealg.IndexString"], unfollowed := true, recurses := true, named := ["unicode/utf8.first", "unicode/utf8.acceptRanges", "internal/bytealg.MaxLen"], plainKeys := false, apart := false, laid := [("unicode/utf8.acceptRanges", laid_unicode_utf8_acceptRanges), ("unicode/utf8.first", laid_unicode_utf8_first)], narrowed := true }
def ProductApartUptoSaid : Prop := productApartUptoRow.holds Tryd.pinned (OpenSpec.upto productApartSpec)

/-- 'priceofficelaw09.ProductNormal', WHERE WHAT IT READS IS OF BULK AT MOST 1048576: true; the input reads as it did. -/
def productNormalUptoRow : OpenClaim := { program := "ytjgbadopladmdaadoor", sum := "a1f780c480e598c80fec79ac6a21b15d57a07c16077c538f53045d8bb426aeae", func := "priceoffice/priceofficelaw09.ProductNormal", spec := "productNormal", inPlace := ["internal/bytealg.abigen_runtime_cmpstring", "internal/abi.NoEscape", "internal/bytealg.MakeNoZero", "internal/bytealg.IndexByteString", "internal/bytealg.IndexString"], unfollowed := true, recurses := true, named := ["unicode/utf8.first", "unicode/utf8.acceptRanges", "internal/bytealg.MaxLen"], plainKeys := false, apart := false, laid := [("unicode/utf8.acceptRanges", laid_unicode_utf8_acceptRanges), ("unicode/utf8.first", laid_unicode_utf8_first)], narrowed := true }
def ProductNormalUptoSaid : Prop := productNormalUptoRow.holds Tryd.pinned (OpenSpec.upto productNormalSpec)

/-- 'priceofficelaw09.ProductDiffers', WHERE WHAT IT READS IS OF BULK AT MOST 1048576: true; the input reads as it did. -/
def productDiffersUptoRow : OpenClaim := { program := "ytjgbadopladmdaadoor", sum := "a1f780c480e598c80fec79ac6a21b15d57a07c16077c538f53045d8bb426aeae", func := "priceoffice/priceofficelaw09.ProductDiffers", spec := "productDiffers", inPlace := ["internal/bytealg.IndexByteString", "internal/bytealg.IndexString"], recurses := true, named := ["unicode/utf8.first", "unicode/utf8.acceptRanges", "internal/bytealg.MaxLen"], plainKeys := false, apart := false, laid := [("unicode/utf8.acceptRanges", laid_unicode_utf8_acceptRanges), ("unicode/utf8.first", laid_unicode_utf8_first)], narrowed := true }
def ProductDiffersUptoSaid : Prop := productDiffersUptoRow.holds Tryd.pinned (OpenSpec.upto productDiffersSpec)

/-- 'priceofficelaw18.RelaunchValid', WHERE WHAT IT READS IS OF BULK AT MOST 1048576: true; the input reads as it did. -/
def relaunchValidUptoRow : OpenClaim := { program := "ytjgbadopladmdaadoor", sum := "a1f780c480e598c80fec79ac6a21b15d57a07c16077c538f53045d8bb426aeae", func := "priceoffice/priceofficelaw18.RelaunchValid", spec := "relaunchValid", inPlace := ["internal/bytealg.IndexByteString", "internal/bytealg.IndexString", "internal/bytealg.abigen_runtime_cmpstring"], unfollowed := true, recurses := true, named := ["unicode/utf8.first", "unicode/utf8.acceptRanges", "internal/bytealg.MaxLen"], plainKeys := false, apart := false, laid := [("unicode/utf8.acceptRanges", laid_unicode_utf8_acceptRanges), ("unicode/utf8.first", laid_unicode_utf8_first)], narrowed := true }
def RelaunchValidUptoSaid : Prop := relaunchValidUptoRow.holds Tryd.pinned (OpenSpec.upto relaunchValidSpec)

/-- 'priceofficelaw18.RelaunchMany', WHERE WHAT IT READS IS OF BULK AT MOST 1048576: true; the input reads as it did. -/
def relaunchManyUptoRow : OpenClaim := { program := "ytjgbadopladmdaadoor", sum := "a1f780c480e598c80fec79ac6a21b15d57a07c16077c538f53045d8bb426aeae", func := "priceoffice/priceofficelaw18.RelaunchMany", spec := "relaunchMany", inPlace := ["internal/bytealg.IndexByteString", "internal/bytealg.IndexString", "internal/bytealg.abigen_runtime_cmpstring"], unfollowed := true, recurses := true, named := ["unicode/utf8.first", "unicode/utf8.acceptRanges", "internal/bytealg.MaxLen"], plainKeys := false, apart := false, laid := [("unicode/utf8.acceptRanges", laid_unicode_utf8_acceptRanges), ("unicode/utf8.first", laid_unicode_utf8_first)], narrowed := true }
def RelaunchManyUptoSaid : Prop := relaunchManyUptoRow.holds Tryd.pinned (OpenSpec.upto relaunchManySpec)

/-- 'priceofficelaw18.RelaunchLines', WHERE WHAT IT READS IS OF BULK AT MOST 1048576: true; the input reads as it did. -/
def relaunchLinesUptoRow : OpenClaim := { program := "ytjgbadopladmdaadoor", sum := "a1f780c480e598c80fec79ac6a21b15d57a07c16077c538f53045d8bb426aeae", func := "priceoffice/priceofficelaw18.RelaunchLines", spec := "relaunchLines", inPlace := ["internal/bytealg.IndexByteString", "internal/bytealg.IndexString", "internal/bytealg.abigen_runtime_cmpstring"], unfollowed := true, recurses := true, named := ["unicode/utf8.first", "unicode/utf8.acceptRanges", "internal/bytealg.MaxLen"], plainKeys := false, apart := false, laid := [("unicode/utf8.acceptRanges", laid_unicode_utf8_acceptRanges), ("unicode/utf8.first", laid_unicode_utf8_first)], narrowed := true }
def RelaunchLinesUptoSaid : Prop := relaunchLinesUptoRow.holds Tryd.pinned (OpenSpec.upto relaunchLinesSpec)

/-- 'priceofficelaw09.ProductKeys', WHERE WHAT IT READS IS OF BULK AT MOST 1048576: true; the input reads as it did. -/
def productKeysUptoRow : OpenClaim := { program := "ytjgbadopladmdaadoor", sum := "a1f780c480e598c80fec79ac6a21b15d57a07c16077c538f53045d8bb426aeae", func := "priceoffice/priceofficelaw09.ProductKeys", spec := "productKeys", inPlace := ["internal/bytealg.abigen_runtime_cmpstring", "internal/abi.NoEscape", "internal/bytealg.MakeNoZero", "internal/bytealg.IndexByteString", "internal/bytealg.IndexString"], unfollowed := true, recurses := true, named := ["unicode/utf8.first", "unicode/utf8.acceptRanges", "internal/bytealg.MaxLen"], plainKeys := false, apart := false, laid := [("unicode/utf8.acceptRanges", laid_unicode_utf8_acceptRanges), ("unicode/utf8.first", laid_unicode_utf8_first)], narrowed := true }
def ProductKeysUptoSaid : Prop := productKeysUptoRow.holds Tryd.pinned (OpenSpec.upto productKeysSpec)

end Rows
end Go.Proofs.YtjgbadopladmdaaDoor
