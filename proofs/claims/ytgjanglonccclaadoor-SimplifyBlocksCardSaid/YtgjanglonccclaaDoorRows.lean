/-
  NARROWER THAN 'FOR EVERY INPUT', by the rows' own cells (each row's printed sentence says how): SimplifyCancels: loops, laid · SimplifyInverts: loops, laid · SimplifyEmpties: loops, laid · SimplifyInserts: loops, laid · SimplifyBlocks: loops, laid · SimplifyFixed: loops, laid · SimplifyAccepts: loops, laid.
  DERIVED. THE GIVEN ROWS OF THIS SEAT. 7 by the template 'for every input the law returns true; each argument reads behind the call as it read before'; 0 by the template 'total and deterministic' (their statements: YtgjanglonccclaaDoorTotals.lean).
  GIVEN WITH THE SEED: the statements are not yours to turn. If you find one false, say at which input.
  Laid BY PROGRAM, IN A SANDBOX (cutbox-rows.mjs): the forced cells as the released guide's own fill.sh prints them over the translation 77c211277425d1c4… (all of the seat's roots in one cut). By AI agents, Wed Nov 11 2026. No macro, syntax, notation, axiom, sorry.
-/
import Derived.Test.YtgjanglonccclaaDoorChecked
import GoSem.Claim
import GoSem.ClaimJoined
import GoSem.ClaimMapViews
import Derived.JoinedTies
import Derived.KernelRfl
namespace Go.Proofs.YtgjanglonccclaaDoor
/- THE CELL 'sum', in the pinned program and in every row, IS THE sha256 OF THE DUMP (.gsa) THAT YtgjanglonccclaaDoorProg.lean LOADS. Nothing in Lean hashes anything: it is a label: what it is worth is what the hold of that sum in a sandbox is worth. -/
noncomputable def Tryd.pinned : Pinned := { name := "ytgjanglonccclaadoor", sum := "77c211277425d1c4be5374fc2ff9d4a399cbd9bc3d321043a8585d45b9e496bd", checked := Tryd.checked }
namespace Rows
def none {H : Type} : Left H := { results := [], args := [] }

/- WHAT THE LISTED PACKAGE-LEVEL VARIABLES READ AS WHEN THE CALL BEGINS. Each datum BY PROGRAM (the guide's laid-datum.mjs) off the statement by which the dump's own 'gosem.cut.vars' lays the variable. In a bare row this is a premise. The card (YtgjanglonccclaaDoorCards.lean) ties it to the program's text. -/
def laid_unicode_White_Space {H : Type} : DataW H := .ptr (.agg [.slice [.agg [.lit (.int .u16 9), .lit (.int .u16 13), .lit (.int .u16 1)], .agg [.lit (.int .u16 32), .lit (.int .u16 133), .lit (.int .u16 101)], .agg [.lit (.int .u16 160), .lit (.int .u16 5760), .lit (.int .u16 5600)], .agg [.lit (.int .u16 8192), .lit (.int .u16 8202), .lit (.int .u16 1)], .agg [.lit (.int .u16 8232), .lit (.int .u16 8233), .lit (.int .u16 1)], .agg [.lit (.int .u16 8239), .lit (.int .u16 8287), .lit (.int .u16 48)], .agg [.lit (.int .u16 12288), .lit (.int .u16 12288), .lit (.int .u16 1)]] [], .nil, .lit (.int .i64 2)])
def laid_strings_asciiSpace {H : Type} : DataW H := .agg [.lit (.int .u8 0), .lit (.int .u8 0), .lit (.int .u8 0), .lit (.int .u8 0), .lit (.int .u8 0), .lit (.int .u8 0), .lit (.int .u8 0), .lit (.int .u8 0), .lit (.int .u8 0), .lit (.int .u8 1), .lit (.int .u8 1), .lit (.int .u8 1), .lit (.int .u8 1), .lit (.int .u8 1), .lit (.int .u8 0), .lit (.int .u8 0), .lit (.int .u8 0), .lit (.int .u8 0), .lit (.int .u8 0), .lit (.int .u8 0), .lit (.int .u8 0), .lit (.int .u8 0), .lit (.int .u8 0), .lit (.int .u8 0), .lit (.int .u8 0), .lit (.int .u8 0), .lit (.int .u8 0), .lit (.int .u8 0), .lit (.int .u8 0), .lit (.int .u8 0), .lit (.int .u8 0), .lit (.int .u8 0), .lit (.int .u8 1), .lit (.int .u8 0), .lit (.int .u8 0), .lit (.int .u8 0), .lit (.int .u8 0), .lit (.int .u8 0), .lit (.int .u8 0), .lit (.int .u8 0), .lit (.int .u8 0), .lit (.int .u8 0), .lit (.int .u8 0), .lit (.int .u8 0), .lit (.int .u8 0), .lit (.int .u8 0), .lit (.int .u8 0), .lit (.int .u8 0), .lit (.int .u8 0), .lit (.int .u8 0), .lit (.int .u8 0), .lit (.int .u8 0), .lit (.int .u8 0), .lit (.int .u8 0), .lit (.int .u8 0), .lit (.int .u8 0), .lit (.int .u8 0), .lit (.int .u8 0), .lit (.int .u8 0), .lit (.int .u8 0), .lit (.int .u8 0), .lit (.int .u8 0), .lit (.int .u8 0), .lit (.int .u8 0), .lit (.int .u8 0), .lit (.int .u8 0), .lit (.int .u8 0), .lit (.int .u8 0), .lit (.int .u8 0), .lit (.int .u8 0), .lit (.int .u8 0), .lit (.int .u8 0), .lit (.int .u8 0), .lit (.int .u8 0), .lit (.int .u8 0), .lit (.int .u8 0), .lit (.int .u8 0), .lit (.int .u8 0), .lit (.int .u8 0), .lit (.int .u8 0), .lit (.int .u8 0), .lit (.int .u8 0), .lit (.int .u8 0), .lit (.int .u8 0), .lit (.int .u8 0), .lit (.int .u8 0), .lit (.int .u8 0), .lit (.int .u8 0), .lit (.int .u8 0), .lit (.int .u8 0), .lit (.int .u8 0), .lit (.int .u8 0), .lit (.int .u8 0), .lit (.int .u8 0), .lit (.int .u8 0), .lit (.int .u8 0), .lit (.int .u8 0), .lit (.int .u8 0), .lit (.int .u8 0), .lit (.int .u8 0), .lit (.int .u8 0), .lit (.int .u8 0), .lit (.int .u8 0), .lit (.int .u8 0), .lit (.int .u8 0), .lit (.int .u8 0), .lit (.int .u8 0), .lit (.int .u8 0), .lit (.int .u8 0), .lit (.int .u8 0), .lit (.int .u8 0), .lit (.int .u8 0), .lit (.int .u8 0), .lit (.int .u8 0), .lit (.int .u8 0), .lit (.int .u8 0), .lit (.int .u8 0), .lit (.int .u8 0), .lit (.int .u8 0), .lit (.int .u8 0), .lit (.int .u8 0), .lit (.int .u8 0), .lit (.int .u8 0), .lit (.int .u8 0), .lit (.int .u8 0), .lit (.int .u8 0), .lit (.int .u8 0), .lit (.int .u8 0), .lit (.int .u8 0), .lit (.int .u8 0), .lit (.int .u8 0), .lit (.int .u8 0), .lit (.int .u8 0), .lit (.int .u8 0), .lit (.int .u8 0), .lit (.int .u8 0), .lit (.int .u8 0), .lit (.int .u8 0), .lit (.int .u8 0), .lit (.int .u8 0), .lit (.int .u8 0), .lit (.int .u8 0), .lit (.int .u8 0), .lit (.int .u8 0), .lit (.int .u8 0), .lit (.int .u8 0), .lit (.int .u8 0), .lit (.int .u8 0), .lit (.int .u8 0), .lit (.int .u8 0), .lit (.int .u8 0), .lit (.int .u8 0), .lit (.int .u8 0), .lit (.int .u8 0), .lit (.int .u8 0), .lit (.int .u8 0), .lit (.int .u8 0), .lit (.int .u8 0), .lit (.int .u8 0), .lit (.int .u8 0), .lit (.int .u8 0), .lit (.int .u8 0), .lit (.int .u8 0), .lit (.int .u8 0), .lit (.int .u8 0), .lit (.int .u8 0), .lit (.int .u8 0), .lit (.int .u8 0), .lit (.int .u8 0), .lit (.int .u8 0), .lit (.int .u8 0), .lit (.int .u8 0), .lit (.int .u8 0), .lit (.int .u8 0), .lit (.int .u8 0), .lit (.int .u8 0), .lit (.int .u8 0), .lit (.int .u8 0), .lit (.int .u8 0), .lit (.int .u8 0), .lit (.int .u8 0), .lit (.int .u8 0), .lit (.int .u8 0), .lit (.int .u8 0), .lit (.int .u8 0), .lit (.int .u8 0), .lit (.int .u8 0), .lit (.int .u8 0), .lit (.int .u8 0), .lit (.int .u8 0), .lit (.int .u8 0), .lit (.int .u8 0), .lit (.int .u8 0), .lit (.int .u8 0), .lit (.int .u8 0), .lit (.int .u8 0), .lit (.int .u8 0), .lit (.int .u8 0), .lit (.int .u8 0), .lit (.int .u8 0), .lit (.int .u8 0), .lit (.int .u8 0), .lit (.int .u8 0), .lit (.int .u8 0), .lit (.int .u8 0), .lit (.int .u8 0), .lit (.int .u8 0), .lit (.int .u8 0), .lit (.int .u8 0), .lit (.int .u8 0), .lit (.int .u8 0), .lit (.int .u8 0), .lit (.int .u8 0), .lit (.int .u8 0), .lit (.int .u8 0), .lit (.int .u8 0), .lit (.int .u8 0), .lit (.int .u8 0), .lit (.int .u8 0), .lit (.int .u8 0), .lit (.int .u8 0), .lit (.int .u8 0), .lit (.int .u8 0), .lit (.int .u8 0), .lit (.int .u8 0), .lit (.int .u8 0), .lit (.int .u8 0), .lit (.int .u8 0), .lit (.int .u8 0), .lit (.int .u8 0), .lit (.int .u8 0), .lit (.int .u8 0), .lit (.int .u8 0), .lit (.int .u8 0), .lit (.int .u8 0), .lit (.int .u8 0), .lit (.int .u8 0), .lit (.int .u8 0), .lit (.int .u8 0), .lit (.int .u8 0), .lit (.int .u8 0), .lit (.int .u8 0), .lit (.int .u8 0), .lit (.int .u8 0), .lit (.int .u8 0), .lit (.int .u8 0), .lit (.int .u8 0), .lit (.int .u8 0), .lit (.int .u8 0), .lit (.int .u8 0), .lit (.int .u8 0), .lit (.int .u8 0), .lit (.int .u8 0), .lit (.int .u8 0), .lit (.int .u8 0), .lit (.int .u8 0)]

/-- 'backsteplaw46.SimplifyCancels': WHATEVER THE INPUT: true; the input reads as it did. -/
def simplifyCancelsSpec : ChangeSpec := { name := "simplifyCancels", fn := fun _ => fun
  | [d1, d2] => { results := [.lit (.bool true)], args := [d1, d2] }
  | _ => none }
def simplifyCancelsRow : OpenClaim := { program := "ytgjanglonccclaadoor", sum := "77c211277425d1c4be5374fc2ff9d4a399cbd9bc3d321043a8585d45b9e496bd", func := "backstep/backsteplaw46.SimplifyCancels", spec := "simplifyCancels", unfollowed := true, recurses := true, named := ["strings.asciiSpace", "unicode.White_Space"], loops := true, apart := false, laid := [("unicode.White_Space", laid_unicode_White_Space), ("strings.asciiSpace", laid_strings_asciiSpace)] }
def SimplifyCancelsSaid : Prop := simplifyCancelsRow.holds Tryd.pinned (OpenSpec.ofChange simplifyCancelsSpec)

/-- ITS FALSE NEIGHBOUR: 'it returns false'. Refute it at one input. -/
def simplifyCancelsWrong : ChangeSpec := { name := "simplifyCancels", fn := fun _ => fun
  | [d1, d2] => { results := [.lit (.bool false)], args := [d1, d2] }
  | _ => none }
def SimplifyCancelsWrongFalsely : Prop := simplifyCancelsRow.holds Tryd.pinned (OpenSpec.ofChange simplifyCancelsWrong)

/-- 'backsteplaw46.SimplifyInverts': WHATEVER THE INPUT: true; the input reads as it did. -/
def simplifyInvertsSpec : ChangeSpec := { name := "simplifyInverts", fn := fun _ => fun
  | [d] => { results := [.lit (.bool true)], args := [d] }
  | _ => none }
def simplifyInvertsRow : OpenClaim := { program := "ytgjanglonccclaadoor", sum := "77c211277425d1c4be5374fc2ff9d4a399cbd9bc3d321043a8585d45b9e496bd", func := "backstep/backsteplaw46.SimplifyInverts", spec := "simplifyInverts", unfollowed := true, recurses := true, named := ["strings.asciiSpace", "unicode.White_Space"], loops := true, apart := false, laid := [("unicode.White_Space", laid_unicode_White_Space), ("strings.asciiSpace", laid_strings_asciiSpace)] }
def SimplifyInvertsSaid : Prop := simplifyInvertsRow.holds Tryd.pinned (OpenSpec.ofChange simplifyInvertsSpec)

/-- ITS FALSE NEIGHBOUR: 'it returns false'. Refute it at one input. -/
def simplifyInvertsWrong : ChangeSpec := { name := "simplifyInverts", fn := fun _ => fun
  | [d] => { results := [.lit (.bool false)], args := [d] }
  | _ => none }
def SimplifyInvertsWrongFalsely : Prop := simplifyInvertsRow.holds Tryd.pinned (OpenSpec.ofChange simplifyInvertsWrong)

/-- 'backsteplaw46.SimplifyEmpties': WHATEVER THE INPUT: true; the input reads as it did. -/
def simplifyEmptiesSpec : ChangeSpec := { name := "simplifyEmpties", fn := fun _ => fun
  | [d] => { results := [.lit (.bool true)], args := [d] }
  | _ => none }
def simplifyEmptiesRow : OpenClaim := { program := "ytgjanglonccclaadoor", sum := "77c211277425d1c4be5374fc2ff9d4a399cbd9bc3d321043a8585d45b9e496bd", func := "backstep/backsteplaw46.SimplifyEmpties", spec := "simplifyEmpties", unfollowed := true, recurses := true, named := ["strings.asciiSpace", "unicode.White_Space"], loops := true, apart := false, laid := [("unicode.White_Space", laid_unicode_White_Space), ("strings.asciiSpace", laid_strings_asciiSpace)] }
def SimplifyEmptiesSaid : Prop := simplifyEmptiesRow.holds Tryd.pinned (OpenSpec.ofChange simplifyEmptiesSpec)

/-- ITS FALSE NEIGHBOUR: 'it returns false'. Refute it at one input. -/
def simplifyEmptiesWrong : ChangeSpec := { name := "simplifyEmpties", fn := fun _ => fun
  | [d] => { results := [.lit (.bool false)], args := [d] }
  | _ => none }
def SimplifyEmptiesWrongFalsely : Prop := simplifyEmptiesRow.holds Tryd.pinned (OpenSpec.ofChange simplifyEmptiesWrong)

/-- 'backsteplaw46.SimplifyInserts': WHATEVER THE INPUT: true; the input reads as it did. -/
def simplifyInsertsSpec : ChangeSpec := { name := "simplifyInserts", fn := fun _ => fun
  | [d1, d2, d3] => { results := [.lit (.bool true)], args := [d1, d2, d3] }
  | _ => none }
def simplifyInsertsRow : OpenClaim := { program := "ytgjanglonccclaadoor", sum := "77c211277425d1c4be5374fc2ff9d4a399cbd9bc3d321043a8585d45b9e496bd", func := "backstep/backsteplaw46.SimplifyInserts", spec := "simplifyInserts", unfollowed := true, recurses := true, named := ["strings.asciiSpace", "unicode.White_Space"], loops := true, apart := false, laid := [("unicode.White_Space", laid_unicode_White_Space), ("strings.asciiSpace", laid_strings_asciiSpace)] }
def SimplifyInsertsSaid : Prop := simplifyInsertsRow.holds Tryd.pinned (OpenSpec.ofChange simplifyInsertsSpec)

/-- ITS FALSE NEIGHBOUR: 'it returns false'. Refute it at one input. -/
def simplifyInsertsWrong : ChangeSpec := { name := "simplifyInserts", fn := fun _ => fun
  | [d1, d2, d3] => { results := [.lit (.bool false)], args := [d1, d2, d3] }
  | _ => none }
def SimplifyInsertsWrongFalsely : Prop := simplifyInsertsRow.holds Tryd.pinned (OpenSpec.ofChange simplifyInsertsWrong)

/-- 'backsteplaw46.SimplifyBlocks': WHATEVER THE INPUT: true; the input reads as it did. -/
def simplifyBlocksSpec : ChangeSpec := { name := "simplifyBlocks", fn := fun _ => fun
  | [d1, d2] => { results := [.lit (.bool true)], args := [d1, d2] }
  | _ => none }
def simplifyBlocksRow : OpenClaim := { program := "ytgjanglonccclaadoor", sum := "77c211277425d1c4be5374fc2ff9d4a399cbd9bc3d321043a8585d45b9e496bd", func := "backstep/backsteplaw46.SimplifyBlocks", spec := "simplifyBlocks", unfollowed := true, recurses := true, named := ["strings.asciiSpace", "unicode.White_Space"], loops := true, apart := false, laid := [("unicode.White_Space", laid_unicode_White_Space), ("strings.asciiSpace", laid_strings_asciiSpace)] }
def SimplifyBlocksSaid : Prop := simplifyBlocksRow.holds Tryd.pinned (OpenSpec.ofChange simplifyBlocksSpec)

/-- ITS FALSE NEIGHBOUR: 'it returns false'. Refute it at one input. -/
def simplifyBlocksWrong : ChangeSpec := { name := "simplifyBlocks", fn := fun _ => fun
  | [d1, d2] => { results := [.lit (.bool false)], args := [d1, d2] }
  | _ => none }
def SimplifyBlocksWrongFalsely : Prop := simplifyBlocksRow.holds Tryd.pinned (OpenSpec.ofChange simplifyBlocksWrong)

/-- 'backsteplaw46.SimplifyFixed': WHATEVER THE INPUT: true; the input reads as it did. -/
def simplifyFixedSpec : ChangeSpec := { name := "simplifyFixed", fn := fun _ => fun
  | [d] => { results := [.lit (.bool true)], args := [d] }
  | _ => none }
def simplifyFixedRow : OpenClaim := { program := "ytgjanglonccclaadoor", sum := "77c211277425d1c4be5374fc2ff9d4a399cbd9bc3d321043a8585d45b9e496bd", func := "backstep/backsteplaw46.SimplifyFixed", spec := "simplifyFixed", unfollowed := true, recurses := true, named := ["strings.asciiSpace", "unicode.White_Space"], loops := true, apart := false, laid := [("unicode.White_Space", laid_unicode_White_Space), ("strings.asciiSpace", laid_strings_asciiSpace)] }
def SimplifyFixedSaid : Prop := simplifyFixedRow.holds Tryd.pinned (OpenSpec.ofChange simplifyFixedSpec)

/-- ITS FALSE NEIGHBOUR: 'it returns false'. Refute it at one input. -/
def simplifyFixedWrong : ChangeSpec := { name := "simplifyFixed", fn := fun _ => fun
  | [d] => { results := [.lit (.bool false)], args := [d] }
  | _ => none }
def SimplifyFixedWrongFalsely : Prop := simplifyFixedRow.holds Tryd.pinned (OpenSpec.ofChange simplifyFixedWrong)

/-- 'backsteplaw46.SimplifyAccepts': WHATEVER THE INPUT: true; the input reads as it did. -/
def simplifyAcceptsSpec : ChangeSpec := { name := "simplifyAccepts", fn := fun _ => fun
  | [d] => { results := [.lit (.bool true)], args := [d] }
  | _ => none }
def simplifyAcceptsRow : OpenClaim := { program := "ytgjanglonccclaadoor", sum := "77c211277425d1c4be5374fc2ff9d4a399cbd9bc3d321043a8585d45b9e496bd", func := "backstep/backsteplaw46.SimplifyAccepts", spec := "simplifyAccepts", unfollowed := true, recurses := true, named := ["strings.asciiSpace", "unicode.White_Space"], loops := true, apart := false, laid := [("unicode.White_Space", laid_unicode_White_Space), ("strings.asciiSpace", laid_strings_asciiSpace)] }
def SimplifyAcceptsSaid : Prop := simplifyAcceptsRow.holds Tryd.pinned (OpenSpec.ofChange simplifyAcceptsSpec)

/-- ITS FALSE NEIGHBOUR: 'it returns false'. Refute it at one input. -/
def simplifyAcceptsWrong : ChangeSpec := { name := "simplifyAccepts", fn := fun _ => fun
  | [d] => { results := [.lit (.bool false)], args := [d] }
  | _ => none }
def SimplifyAcceptsWrongFalsely : Prop := simplifyAcceptsRow.holds Tryd.pinned (OpenSpec.ofChange simplifyAcceptsWrong)

/- THE SECOND FORM. 'bulk': how many values and letters a reading holds, each counted each time it is reached (what is shared counts as often as it is met; a slice's spare places count too). A statement '..UptoSaid' is the law's where the arguments, and the package variables that the reading takes, are together of bulk at most 1048576: NARROWER than '..Said'. Prove '..Said' where nothing that the law and all that it calls make is longer than what came in: it says more and counts as full. Else prove '..UptoSaid'. A law counts once. -/
mutual
def uptoBulk {H : Type} : DataW H → Nat
  | .lit (.string bytes) => bytes.length + 1
  | .lit _ => 1
  | .nil => 1
  | .ptr d => uptoBulk d + 1
  | .slice elems spare => uptoBulkAll elems + uptoBulkAll spare + 1
  | .agg parts => uptoBulkAll parts + 1
  | .iface _ d => uptoBulk d + 1
  | .map entries => uptoBulkEntries entries + 1
  | .held _ => 1
def uptoBulkAll {H : Type} : List (DataW H) → Nat
  | [] => 0
  | d :: r => uptoBulk d + uptoBulkAll r
def uptoBulkEntries {H : Type} : List (Lit × DataW H) → Nat
  | [] => 0
  | x :: r => uptoBulkEntry x + uptoBulkEntries r
def uptoBulkEntry {H : Type} : Lit × DataW H → Nat
  | (.string bytes, d) => bytes.length + uptoBulk d + 1
  | (_, d) => uptoBulk d + 1
 end
def uptoSmall : (H : Type) → List (DataW H) → Bool := fun _ ds => decide (uptoBulkAll ds ≤ 1048576)
def OpenSpec.upto (s : _root_.Go.ChangeSpec) : _root_.Go.OpenSpec := { _root_.Go.OpenSpec.ofChange s with cond := some uptoSmall }

/-- 'backsteplaw46.SimplifyCancels', WHERE WHAT IT READS IS OF BULK AT MOST 1048576: true; the input reads as it did. -/
def simplifyCancelsUptoRow : OpenClaim := { program := "ytgjanglonccclaadoor", sum := "77c211277425d1c4be5374fc2ff9d4a399cbd9bc3d321043a8585d45b9e496bd", func := "backstep/backsteplaw46.SimplifyCancels", spec := "simplifyCancels", unfollowed := true, recurses := true, named := ["strings.asciiSpace", "unicode.White_Space"], loops := true, apart := false, laid := [("unicode.White_Space", laid_unicode_White_Space), ("strings.asciiSpace", laid_strings_asciiSpace)], narrowed := true }
def SimplifyCancelsUptoSaid : Prop := simplifyCancelsUptoRow.holds Tryd.pinned (OpenSpec.upto simplifyCancelsSpec)

/-- 'backsteplaw46.SimplifyInverts', WHERE WHAT IT READS IS OF BULK AT MOST 1048576: true; the input reads as it did. -/
def simplifyInvertsUptoRow : OpenClaim := { program := "ytgjanglonccclaadoor", sum := "77c211277425d1c4be5374fc2ff9d4a399cbd9bc3d321043a8585d45b9e496bd", func := "backstep/backsteplaw46.SimplifyInverts", spec := "simplifyInverts", unfollowed := true, recurses := true, named := ["strings.asciiSpace", "unicode.White_Space"], loops := true, apart := false, laid := [("unicode.White_Space", laid_unicode_White_Space), ("strings.asciiSpace", laid_strings_asciiSpace)], narrowed := true }
def SimplifyInvertsUptoSaid : Prop := simplifyInvertsUptoRow.holds Tryd.pinned (OpenSpec.upto simplifyInvertsSpec)

/-- 'backsteplaw46.SimplifyEmpties', WHERE WHAT IT READS IS OF BULK AT MOST 1048576: true; the input reads as it did. -/
def simplifyEmptiesUptoRow : OpenClaim := { program := "ytgjanglonccclaadoor", sum := "77c211277425d1c4be5374fc2ff9d4a399cbd9bc3d321043a8585d45b9e496bd", func := "backstep/backsteplaw46.SimplifyEmpties", spec := "simplifyEmpties", unfollowed := true, recurses := true, named := ["strings.asciiSpace", "unicode.White_Space"], loops := true, apart := false, laid := [("unicode.White_Space", laid_unicode_White_Space), ("strings.asciiSpace", laid_strings_asciiSpace)], narrowed := true }
def SimplifyEmptiesUptoSaid : Prop := simplifyEmptiesUptoRow.holds Tryd.pinned (OpenSpec.upto simplifyEmptiesSpec)

/-- 'backsteplaw46.SimplifyInserts', WHERE WHAT IT READS IS OF BULK AT MOST 1048576: true; the input reads as it did. -/
def simplifyInsertsUptoRow : OpenClaim := { program := "ytgjanglonccclaadoor", sum := "77c211277425d1c4be5374fc2ff9d4a399cbd9bc3d321043a8585d45b9e496bd", func := "backstep/backsteplaw46.SimplifyInserts", spec := "simplifyInserts", unfollowed := true, recurses := true, named := ["strings.asciiSpace", "unicode.White_Space"], loops := true, apart := false, laid := [("unicode.White_Space", laid_unicode_White_Space), ("strings.asciiSpace", laid_strings_asciiSpace)], narrowed := true }
def SimplifyInsertsUptoSaid : Prop := simplifyInsertsUptoRow.holds Tryd.pinned (OpenSpec.upto simplifyInsertsSpec)

/-- 'backsteplaw46.SimplifyBlocks', WHERE WHAT IT READS IS OF BULK AT MOST 1048576: true; the input reads as it did. -/
def simplifyBlocksUptoRow : OpenClaim := { program := "ytgjanglonccclaadoor", sum := "77c211277425d1c4be5374fc2ff9d4a399cbd9bc3d321043a8585d45b9e496bd", func := "backstep/backsteplaw46.SimplifyBlocks", spec := "simplifyBlocks", unfollowed := true, recurses := true, named := ["strings.asciiSpace", "unicode.White_Space"], loops := true, apart := false, laid := [("unicode.White_Space", laid_unicode_White_Space), ("strings.asciiSpace", laid_strings_asciiSpace)], narrowed := true }
def SimplifyBlocksUptoSaid : Prop := simplifyBlocksUptoRow.holds Tryd.pinned (OpenSpec.upto simplifyBlocksSpec)

/-- 'backsteplaw46.SimplifyFixed', WHERE WHAT IT READS IS OF BULK AT MOST 1048576: true; the input reads as it did. -/
def simplifyFixedUptoRow : OpenClaim := { program := "ytgjanglonccclaadoor", sum := "77c211277425d1c4be5374fc2ff9d4a399cbd9bc3d321043a8585d45b9e496bd", func := "backstep/backsteplaw46.SimplifyFixed", spec := "simplifyFixed", unfollowed := true, recurses := true, named := ["strings.asciiSpace", "unicode.White_Space"], loops := true, apart := false, laid := [("unicode.White_Space", laid_unicode_White_Space), ("strings.asciiSpace", laid_strings_asciiSpace)], narrowed := true }
def SimplifyFixedUptoSaid : Prop := simplifyFixedUptoRow.holds Tryd.pinned (OpenSpec.upto simplifyFixedSpec)

/-- 'backsteplaw46.SimplifyAccepts', WHERE WHAT IT READS IS OF BULK AT MOST 1048576: true; the input reads as it did. -/
def simplifyAcceptsUptoRow : OpenClaim := { program := "ytgjanglonccclaadoor", sum := "77c211277425d1c4be5374fc2ff9d4a399cbd9bc3d321043a8585d45b9e496bd", func := "backstep/backsteplaw46.SimplifyAccepts", spec := "simplifyAccepts", unfollowed := true, recurses := true, named := ["strings.asciiSpace", "unicode.White_Space"], loops := true, apart := false, laid := [("unicode.White_Space", laid_unicode_White_Space), ("strings.asciiSpace", laid_strings_asciiSpace)], narrowed := true }
def SimplifyAcceptsUptoSaid : Prop := simplifyAcceptsUptoRow.holds Tryd.pinned (OpenSpec.upto simplifyAcceptsSpec)

end Rows
end Go.Proofs.YtgjanglonccclaaDoor
