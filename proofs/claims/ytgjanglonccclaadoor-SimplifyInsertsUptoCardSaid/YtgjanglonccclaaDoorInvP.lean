/- Inverting statements and blocks, as plain Lean. No program in sight. -/
import Derived.Test.YtgjanglonccclaaDoorNode
namespace Go.Proofs.YtgjanglonccclaaDoor
open Go.RowKit
set_option linter.unusedVariables false
set_option linter.unusedSimpArgs false

def pairAt (i : Nat) : Int := [40, 44, 46, 48, 50].getD i 0
def invFrom (k : Int) : Nat → Nat → Int
  | 0, _ => k
  | n + 1, i => if k == pairAt i then pairAt i + 1 else if k == pairAt i + 1 then pairAt i else invFrom k n (i + 1)
/-- The kind of the inverse statement. -/
def invKind (k : Int) : Int := invFrom k 5 0
theorem invKind_eq (k : Int) : invKind k = if k = 40 then 41 else if k = 41 then 40 else if k = 44 then 45 else if k = 45 then 44 else if k = 46 then 47 else if k = 47 then 46 else if k = 48 then 49 else if k = 49 then 48 else if k = 50 then 51 else if k = 51 then 50 else k := by
  simp [invKind, invFrom, pairAt]
theorem invKind_invKind (k : Int) : invKind (invKind k) = k := by
  rw [invKind_eq, invKind_eq]
  repeat' split
  all_goals omega
end Go.Proofs.YtgjanglonccclaaDoor
