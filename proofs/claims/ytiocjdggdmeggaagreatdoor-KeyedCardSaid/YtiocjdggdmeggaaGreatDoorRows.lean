/-
  NARROWER THAN 'FOR EVERY INPUT', by the rows' own cells (each row's printed sentence says how): Ships: laid · All: laid · Compiles: laid · Creates: laid · Reads: laid · Puts: laid · Keyed: laid · Converts: laid.
  DERIVED. THE GIVEN ROWS OF THIS SEAT. 8 by the template 'for every input the law returns true; each argument reads behind the call as it read before'; 0 by the template 'total and deterministic' (their statements: YtiocjdggdmeggaaGreatDoorTotals.lean).
  GIVEN WITH THE SEED: the statements are not yours to turn. If you find one false, say at which input.
  Laid BY PROGRAM, IN A SANDBOX (cutbox-rows.mjs): the forced cells as the released guide's own fill.sh prints them over the translation b8d61c4f77962716… (all of the seat's roots in one cut). By AI agents, Wed Nov 11 2026. No macro, syntax, notation, axiom, sorry.
-/
import Derived.Test.YtiocjdggdmeggaaGreatDoorChecked
import GoSem.PinnedTables
import GoSem.Claim
import GoSem.ClaimJoined
import GoSem.ClaimMapViews
import Derived.JoinedTies
import Derived.KernelRfl
namespace Go.Proofs.YtiocjdggdmeggaaGreatDoor
/- THE CELL 'sum', in the pinned program and in every row, IS THE sha256 OF THE DUMP (.gsa) THAT YtiocjdggdmeggaaGreatDoorProg.lean LOADS. Nothing in Lean hashes anything: it is a label: what it is worth is what the hold of that sum in a sandbox is worth. -/
noncomputable def Tryz.pinned : Pinned := { name := "ytiocjdggdmeggaagreatdoor", sum := "b8d61c4f77962716c7135fa65aaf7a7f3e3e17ae6e3c0194abcee71118d93d02", checked := Tryz.checked }
namespace Rows
def none {H : Type} : Left H := { results := [], args := [] }

/- WHAT THE LISTED PACKAGE-LEVEL VARIABLES READ AS WHEN THE CALL BEGINS. Each datum BY PROGRAM (the guide's laid-datum.mjs) off the statement by which the dump's own 'gosem.cut.vars' lays the variable. In a bare row this is a premise. The card (YtiocjdggdmeggaaGreatDoorCards.lean) ties it to the program's text. -/
def laid_math_bits_deBruijn64tab {H : Type} : DataW H := .agg [.lit (.int .u8 0), .lit (.int .u8 1), .lit (.int .u8 56), .lit (.int .u8 2), .lit (.int .u8 57), .lit (.int .u8 49), .lit (.int .u8 28), .lit (.int .u8 3), .lit (.int .u8 61), .lit (.int .u8 58), .lit (.int .u8 42), .lit (.int .u8 50), .lit (.int .u8 38), .lit (.int .u8 29), .lit (.int .u8 17), .lit (.int .u8 4), .lit (.int .u8 62), .lit (.int .u8 47), .lit (.int .u8 59), .lit (.int .u8 36), .lit (.int .u8 45), .lit (.int .u8 43), .lit (.int .u8 51), .lit (.int .u8 22), .lit (.int .u8 53), .lit (.int .u8 39), .lit (.int .u8 33), .lit (.int .u8 30), .lit (.int .u8 24), .lit (.int .u8 18), .lit (.int .u8 12), .lit (.int .u8 5), .lit (.int .u8 63), .lit (.int .u8 55), .lit (.int .u8 48), .lit (.int .u8 27), .lit (.int .u8 60), .lit (.int .u8 41), .lit (.int .u8 37), .lit (.int .u8 16), .lit (.int .u8 46), .lit (.int .u8 35), .lit (.int .u8 44), .lit (.int .u8 21), .lit (.int .u8 52), .lit (.int .u8 32), .lit (.int .u8 23), .lit (.int .u8 11), .lit (.int .u8 54), .lit (.int .u8 26), .lit (.int .u8 40), .lit (.int .u8 15), .lit (.int .u8 34), .lit (.int .u8 20), .lit (.int .u8 31), .lit (.int .u8 10), .lit (.int .u8 25), .lit (.int .u8 14), .lit (.int .u8 19), .lit (.int .u8 9), .lit (.int .u8 13), .lit (.int .u8 8), .lit (.int .u8 7), .lit (.int .u8 6)]
def laid_unicode_utf8_acceptRanges {H : Type} : DataW H := .agg [.agg [.lit (.int .u8 128), .lit (.int .u8 191)], .agg [.lit (.int .u8 160), .lit (.int .u8 191)], .agg [.lit (.int .u8 128), .lit (.int .u8 159)], .agg [.lit (.int .u8 144), .lit (.int .u8 191)], .agg [.lit (.int .u8 128), .lit (.int .u8 143)], .agg [.lit (.int .u8 0), .lit (.int .u8 0)], .agg [.lit (.int .u8 0), .lit (.int .u8 0)], .agg [.lit (.int .u8 0), .lit (.int .u8 0)], .agg [.lit (.int .u8 0), .lit (.int .u8 0)], .agg [.lit (.int .u8 0), .lit (.int .u8 0)], .agg [.lit (.int .u8 0), .lit (.int .u8 0)], .agg [.lit (.int .u8 0), .lit (.int .u8 0)], .agg [.lit (.int .u8 0), .lit (.int .u8 0)], .agg [.lit (.int .u8 0), .lit (.int .u8 0)], .agg [.lit (.int .u8 0), .lit (.int .u8 0)], .agg [.lit (.int .u8 0), .lit (.int .u8 0)]]
def laid_lenses_fault_Long {H : Type} : DataW H := .iface "*errors.errorString" (.ptr (.agg [.lit (.string [116, 111, 111, 32, 108, 111, 110, 103])]))
def laid_lenses_fault_Syntax {H : Type} : DataW H := .iface "*errors.errorString" (.ptr (.agg [.lit (.string [110, 111, 32, 112, 114, 111, 103, 114, 97, 109, 44, 32, 111, 114, 32, 110, 111, 32, 112, 97, 116, 116, 101, 114, 110])]))
def laid_lenses_fault_Size {H : Type} : DataW H := .iface "*errors.errorString" (.ptr (.agg [.lit (.string [116, 111, 111, 32, 109, 117, 99, 104, 32, 105, 110, 32, 105, 116])]))
def laid_lenses_fault_Type {H : Type} : DataW H := .iface "*errors.errorString" (.ptr (.agg [.lit (.string [110, 111, 116, 32, 119, 101, 108, 108, 32, 116, 121, 112, 101, 100])]))
def laid_lenses_fault_Source {H : Type} : DataW H := .iface "*errors.errorString" (.ptr (.agg [.lit (.string [110, 111, 32, 115, 111, 117, 114, 99, 101])]))
def laid_lenses_fault_View {H : Type} : DataW H := .iface "*errors.errorString" (.ptr (.agg [.lit (.string [110, 111, 32, 118, 105, 101, 119])]))
/-- One of Go's own tables, pinned by name: the form's constant. -/
def laid_unicode_utf8_first : DataW Unit := Go.Pinned.utf8First

/-- 'lenseskeep.Ships': WHATEVER THE INPUT: true; the input reads as it did. -/
def shipsSpec : ChangeSpec := { name := "ships", fn := fun _ => fun
  | [d] => { results := [.lit (.bool true)], args := [d] }
  | _ => none }
def shipsRow : OpenClaim := { program := "ytiocjdggdmeggaagreatdoor", sum := "b8d61c4f77962716c7135fa65aaf7a7f3e3e17ae6e3c0194abcee71118d93d02", func := "lenses/lenseskeep.Ships", spec := "ships", inPlace := ["internal/bytealg.IndexByteString", "internal/abi.NoEscape", "internal/bytealg.IndexString", "internal/reflectlite.TypeOf"], unfollowed := true, recurses := true, named := ["lenses/fault.Syntax", "math/bits.deBruijn64tab", "lenses/fault.Type", "unicode/utf8.first", "unicode/utf8.acceptRanges", "internal/bytealg.MaxLen", "lenses/fault.Long", "lenses/fault.Size", "lenses/fault.Source", "lenses/fault.View"], plainKeys := false, apart := false, laid := [("math/bits.deBruijn64tab", laid_math_bits_deBruijn64tab), ("unicode/utf8.acceptRanges", laid_unicode_utf8_acceptRanges), ("lenses/fault.Long", laid_lenses_fault_Long), ("lenses/fault.Syntax", laid_lenses_fault_Syntax), ("lenses/fault.Size", laid_lenses_fault_Size), ("lenses/fault.Type", laid_lenses_fault_Type), ("lenses/fault.Source", laid_lenses_fault_Source), ("lenses/fault.View", laid_lenses_fault_View), ("unicode/utf8.first", laid_unicode_utf8_first)] }
def ShipsSaid : Prop := shipsRow.holds Tryz.pinned (OpenSpec.ofChange shipsSpec)

/-- ITS FALSE NEIGHBOUR: 'it returns false'. Refute it at one input. -/
def shipsWrong : ChangeSpec := { name := "ships", fn := fun _ => fun
  | [d] => { results := [.lit (.bool false)], args := [d] }
  | _ => none }
def ShipsWrongFalsely : Prop := shipsRow.holds Tryz.pinned (OpenSpec.ofChange shipsWrong)

/-- 'lenseslaw.All': WHATEVER THE INPUT: true; the input reads as it did. -/
def allSpec : ChangeSpec := { name := "all", fn := fun _ => fun
  | [d1, d2, d3, d4, d5, d6] => { results := [.lit (.bool true)], args := [d1, d2, d3, d4, d5, d6] }
  | _ => none }
def allRow : OpenClaim := { program := "ytiocjdggdmeggaagreatdoor", sum := "b8d61c4f77962716c7135fa65aaf7a7f3e3e17ae6e3c0194abcee71118d93d02", func := "lenses/lenseslaw.All", spec := "all", inPlace := ["internal/bytealg.IndexByteString", "internal/reflectlite.TypeOf", "internal/abi.NoEscape", "internal/bytealg.IndexString"], unfollowed := true, recurses := true, named := ["lenses/fault.Syntax", "lenses/fault.Long", "lenses/fault.Size", "math/bits.deBruijn64tab", "lenses/fault.Type", "lenses/fault.Source", "lenses/fault.View", "unicode/utf8.first", "unicode/utf8.acceptRanges", "internal/bytealg.MaxLen"], plainKeys := false, apart := false, laid := [("math/bits.deBruijn64tab", laid_math_bits_deBruijn64tab), ("unicode/utf8.acceptRanges", laid_unicode_utf8_acceptRanges), ("lenses/fault.Long", laid_lenses_fault_Long), ("lenses/fault.Syntax", laid_lenses_fault_Syntax), ("lenses/fault.Size", laid_lenses_fault_Size), ("lenses/fault.Type", laid_lenses_fault_Type), ("lenses/fault.Source", laid_lenses_fault_Source), ("lenses/fault.View", laid_lenses_fault_View), ("unicode/utf8.first", laid_unicode_utf8_first)] }
def AllSaid : Prop := allRow.holds Tryz.pinned (OpenSpec.ofChange allSpec)

/-- ITS FALSE NEIGHBOUR: 'it returns false'. Refute it at one input. -/
def allWrong : ChangeSpec := { name := "all", fn := fun _ => fun
  | [d1, d2, d3, d4, d5, d6] => { results := [.lit (.bool false)], args := [d1, d2, d3, d4, d5, d6] }
  | _ => none }
def AllWrongFalsely : Prop := allRow.holds Tryz.pinned (OpenSpec.ofChange allWrong)

/-- 'lenseslaw.Compiles': WHATEVER THE INPUT: true; the input reads as it did. -/
def compilesSpec : ChangeSpec := { name := "compiles", fn := fun _ => fun
  | [d] => { results := [.lit (.bool true)], args := [d] }
  | _ => none }
def compilesRow : OpenClaim := { program := "ytiocjdggdmeggaagreatdoor", sum := "b8d61c4f77962716c7135fa65aaf7a7f3e3e17ae6e3c0194abcee71118d93d02", func := "lenses/lenseslaw.Compiles", spec := "compiles", inPlace := ["internal/bytealg.IndexByteString", "internal/abi.NoEscape", "internal/bytealg.IndexString", "internal/reflectlite.TypeOf"], unfollowed := true, recurses := true, named := ["lenses/fault.Syntax", "math/bits.deBruijn64tab", "lenses/fault.Type", "unicode/utf8.first", "unicode/utf8.acceptRanges", "internal/bytealg.MaxLen", "lenses/fault.Long", "lenses/fault.Size", "lenses/fault.Source", "lenses/fault.View"], plainKeys := false, apart := false, laid := [("math/bits.deBruijn64tab", laid_math_bits_deBruijn64tab), ("unicode/utf8.acceptRanges", laid_unicode_utf8_acceptRanges), ("lenses/fault.Long", laid_lenses_fault_Long), ("lenses/fault.Syntax", laid_lenses_fault_Syntax), ("lenses/fault.Size", laid_lenses_fault_Size), ("lenses/fault.Type", laid_lenses_fault_Type), ("lenses/fault.Source", laid_lenses_fault_Source), ("lenses/fault.View", laid_lenses_fault_View), ("unicode/utf8.first", laid_unicode_utf8_first)] }
def CompilesSaid : Prop := compilesRow.holds Tryz.pinned (OpenSpec.ofChange compilesSpec)

/-- ITS FALSE NEIGHBOUR: 'it returns false'. Refute it at one input. -/
def compilesWrong : ChangeSpec := { name := "compiles", fn := fun _ => fun
  | [d] => { results := [.lit (.bool false)], args := [d] }
  | _ => none }
def CompilesWrongFalsely : Prop := compilesRow.holds Tryz.pinned (OpenSpec.ofChange compilesWrong)

/-- 'lenseslaw.Creates': WHATEVER THE INPUT: true; the input reads as it did. -/
def createsSpec : ChangeSpec := { name := "creates", fn := fun _ => fun
  | [d1, d2] => { results := [.lit (.bool true)], args := [d1, d2] }
  | _ => none }
def createsRow : OpenClaim := { program := "ytiocjdggdmeggaagreatdoor", sum := "b8d61c4f77962716c7135fa65aaf7a7f3e3e17ae6e3c0194abcee71118d93d02", func := "lenses/lenseslaw.Creates", spec := "creates", inPlace := ["internal/bytealg.IndexByteString", "internal/abi.NoEscape", "internal/bytealg.IndexString", "internal/reflectlite.TypeOf"], unfollowed := true, recurses := true, named := ["lenses/fault.Syntax", "math/bits.deBruijn64tab", "lenses/fault.Type", "unicode/utf8.first", "unicode/utf8.acceptRanges", "internal/bytealg.MaxLen", "lenses/fault.Long", "lenses/fault.Size", "lenses/fault.Source", "lenses/fault.View"], plainKeys := false, apart := false, laid := [("math/bits.deBruijn64tab", laid_math_bits_deBruijn64tab), ("unicode/utf8.acceptRanges", laid_unicode_utf8_acceptRanges), ("lenses/fault.Long", laid_lenses_fault_Long), ("lenses/fault.Syntax", laid_lenses_fault_Syntax), ("lenses/fault.Size", laid_lenses_fault_Size), ("lenses/fault.Type", laid_lenses_fault_Type), ("lenses/fault.Source", laid_lenses_fault_Source), ("lenses/fault.View", laid_lenses_fault_View), ("unicode/utf8.first", laid_unicode_utf8_first)] }
def CreatesSaid : Prop := createsRow.holds Tryz.pinned (OpenSpec.ofChange createsSpec)

/-- ITS FALSE NEIGHBOUR: 'it returns false'. Refute it at one input. -/
def createsWrong : ChangeSpec := { name := "creates", fn := fun _ => fun
  | [d1, d2] => { results := [.lit (.bool false)], args := [d1, d2] }
  | _ => none }
def CreatesWrongFalsely : Prop := createsRow.holds Tryz.pinned (OpenSpec.ofChange createsWrong)

/-- 'lenseslaw.Reads': WHATEVER THE INPUT: true; the input reads as it did. -/
def readsSpec : ChangeSpec := { name := "reads", fn := fun _ => fun
  | [d1, d2] => { results := [.lit (.bool true)], args := [d1, d2] }
  | _ => none }
def readsRow : OpenClaim := { program := "ytiocjdggdmeggaagreatdoor", sum := "b8d61c4f77962716c7135fa65aaf7a7f3e3e17ae6e3c0194abcee71118d93d02", func := "lenses/lenseslaw.Reads", spec := "reads", inPlace := ["internal/bytealg.IndexByteString", "internal/abi.NoEscape", "internal/bytealg.IndexString", "internal/reflectlite.TypeOf"], unfollowed := true, recurses := true, named := ["lenses/fault.Syntax", "math/bits.deBruijn64tab", "lenses/fault.Type", "unicode/utf8.first", "unicode/utf8.acceptRanges", "internal/bytealg.MaxLen", "lenses/fault.Long", "lenses/fault.Size", "lenses/fault.Source", "lenses/fault.View"], plainKeys := false, apart := false, laid := [("math/bits.deBruijn64tab", laid_math_bits_deBruijn64tab), ("unicode/utf8.acceptRanges", laid_unicode_utf8_acceptRanges), ("lenses/fault.Long", laid_lenses_fault_Long), ("lenses/fault.Syntax", laid_lenses_fault_Syntax), ("lenses/fault.Size", laid_lenses_fault_Size), ("lenses/fault.Type", laid_lenses_fault_Type), ("lenses/fault.Source", laid_lenses_fault_Source), ("lenses/fault.View", laid_lenses_fault_View), ("unicode/utf8.first", laid_unicode_utf8_first)] }
def ReadsSaid : Prop := readsRow.holds Tryz.pinned (OpenSpec.ofChange readsSpec)

/-- ITS FALSE NEIGHBOUR: 'it returns false'. Refute it at one input. -/
def readsWrong : ChangeSpec := { name := "reads", fn := fun _ => fun
  | [d1, d2] => { results := [.lit (.bool false)], args := [d1, d2] }
  | _ => none }
def ReadsWrongFalsely : Prop := readsRow.holds Tryz.pinned (OpenSpec.ofChange readsWrong)

/-- 'lenseslaw.Puts': WHATEVER THE INPUT: true; the input reads as it did. -/
def putsSpec : ChangeSpec := { name := "puts", fn := fun _ => fun
  | [d1, d2, d3] => { results := [.lit (.bool true)], args := [d1, d2, d3] }
  | _ => none }
def putsRow : OpenClaim := { program := "ytiocjdggdmeggaagreatdoor", sum := "b8d61c4f77962716c7135fa65aaf7a7f3e3e17ae6e3c0194abcee71118d93d02", func := "lenses/lenseslaw.Puts", spec := "puts", inPlace := ["internal/bytealg.IndexByteString", "internal/abi.NoEscape", "internal/bytealg.IndexString", "internal/reflectlite.TypeOf"], unfollowed := true, recurses := true, named := ["lenses/fault.Syntax", "math/bits.deBruijn64tab", "lenses/fault.Type", "unicode/utf8.first", "unicode/utf8.acceptRanges", "internal/bytealg.MaxLen", "lenses/fault.Long", "lenses/fault.Size", "lenses/fault.Source", "lenses/fault.View"], plainKeys := false, apart := false, laid := [("math/bits.deBruijn64tab", laid_math_bits_deBruijn64tab), ("unicode/utf8.acceptRanges", laid_unicode_utf8_acceptRanges), ("lenses/fault.Long", laid_lenses_fault_Long), ("lenses/fault.Syntax", laid_lenses_fault_Syntax), ("lenses/fault.Size", laid_lenses_fault_Size), ("lenses/fault.Type", laid_lenses_fault_Type), ("lenses/fault.Source", laid_lenses_fault_Source), ("lenses/fault.View", laid_lenses_fault_View), ("unicode/utf8.first", laid_unicode_utf8_first)] }
def PutsSaid : Prop := putsRow.holds Tryz.pinned (OpenSpec.ofChange putsSpec)

/-- ITS FALSE NEIGHBOUR: 'it returns false'. Refute it at one input. -/
def putsWrong : ChangeSpec := { name := "puts", fn := fun _ => fun
  | [d1, d2, d3] => { results := [.lit (.bool false)], args := [d1, d2, d3] }
  | _ => none }
def PutsWrongFalsely : Prop := putsRow.holds Tryz.pinned (OpenSpec.ofChange putsWrong)

/-- 'lenseskeep.Keyed': WHATEVER THE INPUT: true; the input reads as it did. -/
def keyedSpec : ChangeSpec := { name := "keyed", fn := fun _ => fun
  | [d1, d2, d3] => { results := [.lit (.bool true)], args := [d1, d2, d3] }
  | _ => none }
def keyedRow : OpenClaim := { program := "ytiocjdggdmeggaagreatdoor", sum := "b8d61c4f77962716c7135fa65aaf7a7f3e3e17ae6e3c0194abcee71118d93d02", func := "lenses/lenseskeep.Keyed", spec := "keyed", inPlace := ["internal/bytealg.IndexByteString", "internal/abi.NoEscape", "internal/bytealg.IndexString", "internal/reflectlite.TypeOf"], unfollowed := true, recurses := true, named := ["lenses/fault.Syntax", "math/bits.deBruijn64tab", "lenses/fault.Type", "unicode/utf8.first", "unicode/utf8.acceptRanges", "internal/bytealg.MaxLen", "lenses/fault.Long", "lenses/fault.Size", "lenses/fault.Source", "lenses/fault.View"], plainKeys := false, apart := false, laid := [("math/bits.deBruijn64tab", laid_math_bits_deBruijn64tab), ("unicode/utf8.acceptRanges", laid_unicode_utf8_acceptRanges), ("lenses/fault.Long", laid_lenses_fault_Long), ("lenses/fault.Syntax", laid_lenses_fault_Syntax), ("lenses/fault.Size", laid_lenses_fault_Size), ("lenses/fault.Type", laid_lenses_fault_Type), ("lenses/fault.Source", laid_lenses_fault_Source), ("lenses/fault.View", laid_lenses_fault_View), ("unicode/utf8.first", laid_unicode_utf8_first)] }
def KeyedSaid : Prop := keyedRow.holds Tryz.pinned (OpenSpec.ofChange keyedSpec)

/-- ITS FALSE NEIGHBOUR: 'it returns false'. Refute it at one input. -/
def keyedWrong : ChangeSpec := { name := "keyed", fn := fun _ => fun
  | [d1, d2, d3] => { results := [.lit (.bool false)], args := [d1, d2, d3] }
  | _ => none }
def KeyedWrongFalsely : Prop := keyedRow.holds Tryz.pinned (OpenSpec.ofChange keyedWrong)

/-- 'lenseslaw.Converts': WHATEVER THE INPUT: true; the input reads as it did. -/
def convertsSpec : ChangeSpec := { name := "converts", fn := fun _ => fun
  | [d1, d2, d3] => { results := [.lit (.bool true)], args := [d1, d2, d3] }
  | _ => none }
def convertsRow : OpenClaim := { program := "ytiocjdggdmeggaagreatdoor", sum := "b8d61c4f77962716c7135fa65aaf7a7f3e3e17ae6e3c0194abcee71118d93d02", func := "lenses/lenseslaw.Converts", spec := "converts", inPlace := ["internal/bytealg.IndexByteString", "internal/abi.NoEscape", "internal/bytealg.IndexString", "internal/reflectlite.TypeOf"], unfollowed := true, recurses := true, named := ["lenses/fault.Syntax", "math/bits.deBruijn64tab", "lenses/fault.Type", "unicode/utf8.first", "unicode/utf8.acceptRanges", "internal/bytealg.MaxLen", "lenses/fault.Long", "lenses/fault.Size", "lenses/fault.Source", "lenses/fault.View"], plainKeys := false, apart := false, laid := [("math/bits.deBruijn64tab", laid_math_bits_deBruijn64tab), ("unicode/utf8.acceptRanges", laid_unicode_utf8_acceptRanges), ("lenses/fault.Long", laid_lenses_fault_Long), ("lenses/fault.Syntax", laid_lenses_fault_Syntax), ("lenses/fault.Size", laid_lenses_fault_Size), ("lenses/fault.Type", laid_lenses_fault_Type), ("lenses/fault.Source", laid_lenses_fault_Source), ("lenses/fault.View", laid_lenses_fault_View), ("unicode/utf8.first", laid_unicode_utf8_first)] }
def ConvertsSaid : Prop := convertsRow.holds Tryz.pinned (OpenSpec.ofChange convertsSpec)

/-- ITS FALSE NEIGHBOUR: 'it returns false'. Refute it at one input. -/
def convertsWrong : ChangeSpec := { name := "converts", fn := fun _ => fun
  | [d1, d2, d3] => { results := [.lit (.bool false)], args := [d1, d2, d3] }
  | _ => none }
def ConvertsWrongFalsely : Prop := convertsRow.holds Tryz.pinned (OpenSpec.ofChange convertsWrong)

/- THE SECOND FORM. 'bulk': how many values and letters a reading holds, each counted each time it is reached (what is shared counts as often as it is met; a slice's spare places count too). A statement '..UptoSaid' is the law's where the arguments, and the package variables that the reading takes, are together of bulk at most 1048576: NARROWER than '..Said'. Prove '..Said' where nothing that the law and all that it calls make is longer than what came in: it says more and counts as full. Else prove '..UptoSaid'. A law counts once. -/
mutual
def uptoBulk {H : Type} : DataW H → Nat
  | .lit (.string bytes) => bytes.length + 1
  | .lit _ => 1
  | .nil => 1
  | .ptr d => uptoBulk d + 1
  | .slice elems spare => uptoBulkAll elems + uptoBulkAll spare + 1
  | .agg parts => uptoBulkAll parts + 1
  | .iface _ d => uptoBulk d + 1
  | .map entries => uptoBulkEntries entries + 1
  | .held _ => 1
def uptoBulkAll {H : Type} : List (DataW H) → Nat
  | [] => 0
  | d :: r => uptoBulk d + uptoBulkAll r
def uptoBulkEntries {H : Type} : List (Lit × DataW H) → Nat
  | [] => 0
  | x :: r => uptoBulkEntry x + uptoBulkEntries r
def uptoBulkEntry {H : Type} : Lit × DataW H → Nat
  | (.string bytes, d) => bytes.length + uptoBulk d + 1
  | (_, d) => uptoBulk d + 1
 end
def uptoSmall : (H : Type) → List (DataW H) → Bool := fun _ ds => decide (uptoBulkAll ds ≤ 1048576)
def OpenSpec.upto (s : _root_.Go.ChangeSpec) : _root_.Go.OpenSpec := { _root_.Go.OpenSpec.ofChange s with cond := some uptoSmall }

/-- 'lenseskeep.Ships', WHERE WHAT IT READS IS OF BULK AT MOST 1048576: true; the input reads as it did. -/
def shipsUptoRow : OpenClaim := { program := "ytiocjdggdmeggaagreatdoor", sum := "b8d61c4f77962716c7135fa65aaf7a7f3e3e17ae6e3c0194abcee71118d93d02", func := "lenses/lenseskeep.Ships", spec := "ships", inPlace := ["internal/bytealg.IndexByteString", "internal/abi.NoEscape", "internal/bytealg.IndexString", "internal/reflectlite.TypeOf"], unfollowed := true, recurses := true, named := ["lenses/fault.Syntax", "math/bits.deBruijn64tab", "lenses/fault.Type", "unicode/utf8.first", "unicode/utf8.acceptRanges", "internal/bytealg.MaxLen", "lenses/fault.Long", "lenses/fault.Size", "lenses/fault.Source", "lenses/fault.View"], plainKeys := false, apart := false, laid := [("math/bits.deBruijn64tab", laid_math_bits_deBruijn64tab), ("unicode/utf8.acceptRanges", laid_unicode_utf8_acceptRanges), ("lenses/fault.Long", laid_lenses_fault_Long), ("lenses/fault.Syntax", laid_lenses_fault_Syntax), ("lenses/fault.Size", laid_lenses_fault_Size), ("lenses/fault.Type", laid_lenses_fault_Type), ("lenses/fault.Source", laid_lenses_fault_Source), ("lenses/fault.View", laid_lenses_fault_View), ("unicode/utf8.first", laid_unicode_utf8_first)], narrowed := true }
def ShipsUptoSaid : Prop := shipsUptoRow.holds Tryz.pinned (OpenSpec.upto shipsSpec)

/-- 'lenseslaw.All', WHERE WHAT IT READS IS OF BULK AT MOST 1048576: true; the input reads as it did. -/
def allUptoRow : OpenClaim := { program := "ytiocjdggdmeggaagreatdoor", sum := "b8d61c4f77962716c7135fa65aaf7a7f3e3e17ae6e3c0194abcee71118d93d02", func := "lenses/lenseslaw.All", spec := "all", inPlace := ["internal/bytealg.IndexByteString", "internal/reflectlite.TypeOf", "internal/abi.NoEscape", "internal/bytealg.IndexString"], unfollowed := true, recurses := true, named := ["lenses/fault.Syntax", "lenses/fault.Long", "lenses/fault.Size", "math/bits.deBruijn64tab", "lenses/fault.Type", "lenses/fault.Source", "lenses/fault.View", "unicode/utf8.first", "unicode/utf8.acceptRanges", "internal/bytealg.MaxLen"], plainKeys := false, apart := false, laid := [("math/bits.deBruijn64tab", laid_math_bits_deBruijn64tab), ("unicode/utf8.acceptRanges", laid_unicode_utf8_acceptRanges), ("lenses/fault.Long", laid_lenses_fault_Long), ("lenses/fault.Syntax", laid_lenses_fault_Syntax), ("lenses/fault.Size", laid_lenses_fault_Size), ("lenses/fault.Type", laid_lenses_fault_Type), ("lenses/fault.Source", laid_lenses_fault_Source), ("lenses/fault.View", laid_lenses_fault_View), ("unicode/utf8.first", laid_unicode_utf8_first)], narrowed := true }
def AllUptoSaid : Prop := allUptoRow.holds Tryz.pinned (OpenSpec.upto allSpec)

/-- 'lenseslaw.Compiles', WHERE WHAT IT READS IS OF BULK AT MOST 1048576: true; the input reads as it did. -/
def compilesUptoRow : OpenClaim := { program := "ytiocjdggdmeggaagreatdoor", sum := "b8d61c4f77962716c7135fa65aaf7a7f3e3e17ae6e3c0194abcee71118d93d02", func := "lenses/lenseslaw.Compiles", spec := "compiles", inPlace := ["internal/bytealg.IndexByteString", "internal/abi.NoEscape", "internal/bytealg.IndexString", "internal/reflectlite.TypeOf"], unfollowed := true, recurses := true, named := ["lenses/fault.Syntax", "math/bits.deBruijn64tab", "lenses/fault.Type", "unicode/utf8.first", "unicode/utf8.acceptRanges", "internal/bytealg.MaxLen", "lenses/fault.Long", "lenses/fault.Size", "lenses/fault.Source", "lenses/fault.View"], plainKeys := false, apart := false, laid := [("math/bits.deBruijn64tab", laid_math_bits_deBruijn64tab), ("unicode/utf8.acceptRanges", laid_unicode_utf8_acceptRanges), ("lenses/fault.Long", laid_lenses_fault_Long), ("lenses/fault.Syntax", laid_lenses_fault_Syntax), ("lenses/fault.Size", laid_lenses_fault_Size), ("lenses/fault.Type", laid_lenses_fault_Type), ("lenses/fault.Source", laid_lenses_fault_Source), ("lenses/fault.View", laid_lenses_fault_View), ("unicode/utf8.first", laid_unicode_utf8_first)], narrowed := true }
def CompilesUptoSaid : Prop := compilesUptoRow.holds Tryz.pinned (OpenSpec.upto compilesSpec)

/-- 'lenseslaw.Creates', WHERE WHAT IT READS IS OF BULK AT MOST 1048576: true; the input reads as it did. -/
def createsUptoRow : OpenClaim := { program := "ytiocjdggdmeggaagreatdoor", sum := "b8d61c4f77962716c7135fa65aaf7a7f3e3e17ae6e3c0194abcee71118d93d02", func := "lenses/lenseslaw.Creates", spec := "creates", inPlace := ["internal/bytealg.IndexByteString", "internal/abi.NoEscape", "internal/bytealg.IndexString", "internal/reflectlite.TypeOf"], unfollowed := true, recurses := true, named := ["lenses/fault.Syntax", "math/bits.deBruijn64tab", "lenses/fault.Type", "unicode/utf8.first", "unicode/utf8.acceptRanges", "internal/bytealg.MaxLen", "lenses/fault.Long", "lenses/fault.Size", "lenses/fault.Source", "lenses/fault.View"], plainKeys := false, apart := false, laid := [("math/bits.deBruijn64tab", laid_math_bits_deBruijn64tab), ("unicode/utf8.acceptRanges", laid_unicode_utf8_acceptRanges), ("lenses/fault.Long", laid_lenses_fault_Long), ("lenses/fault.Syntax", laid_lenses_fault_Syntax), ("lenses/fault.Size", laid_lenses_fault_Size), ("lenses/fault.Type", laid_lenses_fault_Type), ("lenses/fault.Source", laid_lenses_fault_Source), ("lenses/fault.View", laid_lenses_fault_View), ("unicode/utf8.first", laid_unicode_utf8_first)], narrowed := true }
def CreatesUptoSaid : Prop := createsUptoRow.holds Tryz.pinned (OpenSpec.upto createsSpec)

/-- 'lenseslaw.Reads', WHERE WHAT IT READS IS OF BULK AT MOST 1048576: true; the input reads as it did. -/
def readsUptoRow : OpenClaim := { program := "ytiocjdggdmeggaagreatdoor", sum := "b8d61c4f77962716c7135fa65aaf7a7f3e3e17ae6e3c0194abcee71118d93d02", func := "lenses/lenseslaw.Reads", spec := "reads", inPlace := ["internal/bytealg.IndexByteString", "internal/abi.NoEscape", "internal/bytealg.IndexString", "internal/reflectlite.TypeOf"], unfollowed := true, recurses := true, named := ["lenses/fault.Syntax", "math/bits.deBruijn64tab", "lenses/fault.Type", "unicode/utf8.first", "unicode/utf8.acceptRanges", "internal/bytealg.MaxLen", "lenses/fault.Long", "lenses/fault.Size", "lenses/fault.Source", "lenses/fault.View"], plainKeys := false, apart := false, laid := [("math/bits.deBruijn64tab", laid_math_bits_deBruijn64tab), ("unicode/utf8.acceptRanges", laid_unicode_utf8_acceptRanges), ("lenses/fault.Long", laid_lenses_fault_Long), ("lenses/fault.Syntax", laid_lenses_fault_Syntax), ("lenses/fault.Size", laid_lenses_fault_Size), ("lenses/fault.Type", laid_lenses_fault_Type), ("lenses/fault.Source", laid_lenses_fault_Source), ("lenses/fault.View", laid_lenses_fault_View), ("unicode/utf8.first", laid_unicode_utf8_first)], narrowed := true }
def ReadsUptoSaid : Prop := readsUptoRow.holds Tryz.pinned (OpenSpec.upto readsSpec)

/-- 'lenseslaw.Puts', WHERE WHAT IT READS IS OF BULK AT MOST 1048576: true; the input reads as it did. -/
def putsUptoRow : OpenClaim := { program := "ytiocjdggdmeggaagreatdoor", sum := "b8d61c4f77962716c7135fa65aaf7a7f3e3e17ae6e3c0194abcee71118d93d02", func := "lenses/lenseslaw.Puts", spec := "puts", inPlace := ["internal/bytealg.IndexByteString", "internal/abi.NoEscape", "internal/bytealg.IndexString", "internal/reflectlite.TypeOf"], unfollowed := true, recurses := true, named := ["lenses/fault.Syntax", "math/bits.deBruijn64tab", "lenses/fault.Type", "unicode/utf8.first", "unicode/utf8.acceptRanges", "internal/bytealg.MaxLen", "lenses/fault.Long", "lenses/fault.Size", "lenses/fault.Source", "lenses/fault.View"], plainKeys := false, apart := false, laid := [("math/bits.deBruijn64tab", laid_math_bits_deBruijn64tab), ("unicode/utf8.acceptRanges", laid_unicode_utf8_acceptRanges), ("lenses/fault.Long", laid_lenses_fault_Long), ("lenses/fault.Syntax", laid_lenses_fault_Syntax), ("lenses/fault.Size", laid_lenses_fault_Size), ("lenses/fault.Type", laid_lenses_fault_Type), ("lenses/fault.Source", laid_lenses_fault_Source), ("lenses/fault.View", laid_lenses_fault_View), ("unicode/utf8.first", laid_unicode_utf8_first)], narrowed := true }
def PutsUptoSaid : Prop := putsUptoRow.holds Tryz.pinned (OpenSpec.upto putsSpec)

/-- 'lenseskeep.Keyed', WHERE WHAT IT READS IS OF BULK AT MOST 1048576: true; the input reads as it did. -/
def keyedUptoRow : OpenClaim := { program := "ytiocjdggdmeggaagreatdoor", sum := "b8d61c4f77962716c7135fa65aaf7a7f3e3e17ae6e3c0194abcee71118d93d02", func := "lenses/lenseskeep.Keyed", spec := "keyed", inPlace := ["internal/bytealg.IndexByteString", "internal/abi.NoEscape", "internal/bytealg.IndexString", "internal/reflectlite.TypeOf"], unfollowed := true, recurses := true, named := ["lenses/fault.Syntax", "math/bits.deBruijn64tab", "lenses/fault.Type", "unicode/utf8.first", "unicode/utf8.acceptRanges", "internal/bytealg.MaxLen", "lenses/fault.Long", "lenses/fault.Size", "lenses/fault.Source", "lenses/fault.View"], plainKeys := false, apart := false, laid := [("math/bits.deBruijn64tab", laid_math_bits_deBruijn64tab), ("unicode/utf8.acceptRanges", laid_unicode_utf8_acceptRanges), ("lenses/fault.Long", laid_lenses_fault_Long), ("lenses/fault.Syntax", laid_lenses_fault_Syntax), ("lenses/fault.Size", laid_lenses_fault_Size), ("lenses/fault.Type", laid_lenses_fault_Type), ("lenses/fault.Source", laid_lenses_fault_Source), ("lenses/fault.View", laid_lenses_fault_View), ("unicode/utf8.first", laid_unicode_utf8_first)], narrowed := true }
def KeyedUptoSaid : Prop := keyedUptoRow.holds Tryz.pinned (OpenSpec.upto keyedSpec)

/-- 'lenseslaw.Converts', WHERE WHAT IT READS IS OF BULK AT MOST 1048576: true; the input reads as it did. -/
def convertsUptoRow : OpenClaim := { program := "ytiocjdggdmeggaagreatdoor", sum := "b8d61c4f77962716c7135fa65aaf7a7f3e3e17ae6e3c0194abcee71118d93d02", func := "lenses/lenseslaw.Converts", spec := "converts", inPlace := ["internal/bytealg.IndexByteString", "internal/abi.NoEscape", "internal/bytealg.IndexString", "internal/reflectlite.TypeOf"], unfollowed := true, recurses := true, named := ["lenses/fault.Syntax", "math/bits.deBruijn64tab", "lenses/fault.Type", "unicode/utf8.first", "unicode/utf8.acceptRanges", "internal/bytealg.MaxLen", "lenses/fault.Long", "lenses/fault.Size", "lenses/fault.Source", "lenses/fault.View"], plainKeys := false, apart := false, laid := [("math/bits.deBruijn64tab", laid_math_bits_deBruijn64tab), ("unicode/utf8.acceptRanges", laid_unicode_utf8_acceptRanges), ("lenses/fault.Long", laid_lenses_fault_Long), ("lenses/fault.Syntax", laid_lenses_fault_Syntax), ("lenses/fault.Size", laid_lenses_fault_Size), ("lenses/fault.Type", laid_lenses_fault_Type), ("lenses/fault.Source", laid_lenses_fault_Source), ("lenses/fault.View", laid_lenses_fault_View), ("unicode/utf8.first", laid_unicode_utf8_first)], narrowed := true }
def ConvertsUptoSaid : Prop := convertsUptoRow.holds Tryz.pinned (OpenSpec.upto convertsSpec)

end Rows
end Go.Proofs.YtiocjdggdmeggaaGreatDoor
