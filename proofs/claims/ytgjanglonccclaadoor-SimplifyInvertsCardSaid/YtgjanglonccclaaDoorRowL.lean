/- What the rows of this seat share. -/
import Derived.Test.YtgjanglonccclaaDoorRead
import Derived.ProofKit
import Derived.LaidLaws
import Derived.Lib.LaidTab
import Derived.Lay
import Derived.LaidSub
import Derived.MakeChecks
namespace Go.Proofs.YtgjanglonccclaaDoor
open Go.ChangeShapes Go.WideShapes Go.ChangeAt Go.RowKit
set_option linter.unusedVariables false
set_option linter.unusedSimpArgs false

def node0 : Value := .agg #[.int .u8 0, .int .i64 0, .string ⟨#[]⟩, .slice none 0 0]
theorem own46 : ownKnob Tryd.prog.godebug = none := by kernel_rfl
theorem laidOut46 : laidOutB Tryd.prog = true := by kernel_rfl
theorem agg_of {v a b c d : Value} (h : v.cells.toList = [a, b, c, d]) : v = .agg #[a, b, c, d] := by
  cases v <;> simp [Value.cells] at h
  rename_i cs
  congr 1
  apply Array.toList_inj.1
  simpa using h
theorem good_of_laid {W : World} {l : List (String × DataW Unit)} (e : l.filter (fun x => x.1 == "strings.asciiSpace") = [("strings.asciiSpace", Lib.tabData .u8 Lib.asciiSpaceTab)])
    (h : laidMetH Tryd.prog l W) : Good W := by
  have h1 := laidMetH.filter (fun x => x.1 == "strings.asciiSpace") h
  rw [e, MakeChecks.laidMetH_plain _ _ _ (by kernel_rfl)] at h1
  exact Lib.tabIs_of_head globalSpace (t := 114) (e := 5) (n := 256) (by kernel_rfl) Tryd.underlying114 Tryd.underlying5 (by kernel_rfl) (by kernel_rfl) h1
end Go.Proofs.YtgjanglonccclaaDoor
