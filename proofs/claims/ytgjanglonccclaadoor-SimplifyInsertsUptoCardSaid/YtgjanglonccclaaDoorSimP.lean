/- Simplifying blocks, as plain Lean. No program in sight. -/
import Derived.Test.YtgjanglonccclaaDoorInvP3
import Derived.Test.YtgjanglonccclaaDoorEqP
namespace Go.Proofs.YtgjanglonccclaaDoor
open Go.RowKit
set_option linter.unusedVariables false
set_option linter.unusedSimpArgs false

/-- Do two statements cancel? -/
def cancelsB (a b : Node) : Bool := a.isStmt && (b.isStmt && (!(a.kind == 56) && a.inv.eqB b))
/-- A statement behind the statements so far: the two that cancel fall away. -/
def pushC (acc : List Node) (s : Node) : List Node :=
  match acc.getLast? with
  | some l => if cancelsB l s then acc.dropLast else acc ++ [s]
  | none => acc ++ [s]
mutual
/-- The simplified form of a block. -/
def Node.simp : Node → Node
  | ⟨_, _, _, ks⟩ => ⟨57, 0, ⟨#[]⟩, simpAll [] ks⟩
/-- A statement whose blocks are simplified. -/
def Node.eachS : Node → Node
  | ⟨k, n, s, ks⟩ => ⟨k, n, s, simpKids ks⟩
def simpKids : List Node → List Node
  | [] => []
  | k :: ks => (if k.kind == 57 then k.simp else k) :: simpKids ks
def simpAll : List Node → List Node → List Node
  | acc, [] => acc
  | acc, k :: ks => simpAll (pushC acc k.eachS) ks
end
def simpB (t : Node) : Node := if t.kind == 57 then t.simp else t
theorem Node.simp_eq (t : Node) : t.simp = ⟨57, 0, ⟨#[]⟩, simpAll [] t.kids⟩ := by cases t; simp only [Node.simp]
theorem simpKids_map (l : List Node) : simpKids l = l.map simpB := by
  induction l with
  | nil => rfl
  | cons a l ih => simp [simpKids, simpB, ih]
theorem Node.eachS_eq (t : Node) : t.eachS = ⟨t.kind, t.num, t.name, t.kids.map simpB⟩ := by cases t; simp only [Node.eachS, simpKids_map]
theorem simpAll_drop {ks : List Node} {j : Nat} (h : j < ks.length) (acc : List Node) : simpAll acc (ks.drop j) = simpAll (pushC acc ks[j].eachS) (ks.drop (j + 1)) := by
  rw [List.drop_eq_getElem_cons h, simpAll]
theorem simpAll_foldl (acc ks : List Node) : simpAll acc ks = ks.foldl (fun a k => pushC a k.eachS) acc := by
  induction ks generalizing acc with
  | nil => rfl
  | cons k ks ih => simp [simpAll, ih]
theorem pushC_length (acc : List Node) (s : Node) : (pushC acc s).length ≤ acc.length + 1 := by
  unfold pushC
  split
  · split <;> simp <;> omega
  · simp
theorem simpAll_length (ks : List Node) : ∀ acc : List Node, (simpAll acc ks).length ≤ acc.length + ks.length := by
  induction ks with
  | nil => intro acc; simp [simpAll]
  | cons k ks ih =>
    intro acc
    have := ih (pushC acc k.eachS)
    have := pushC_length acc k.eachS
    simp only [simpAll, List.length_cons]
    omega
end Go.Proofs.YtgjanglonccclaaDoor
