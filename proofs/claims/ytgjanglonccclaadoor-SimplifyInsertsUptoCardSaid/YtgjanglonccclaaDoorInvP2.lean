/- The inverse of a statement or block, as plain Lean. No program in sight. -/
import Derived.Test.YtgjanglonccclaaDoorInvP
namespace Go.Proofs.YtgjanglonccclaaDoor
open Go.RowKit
set_option linter.unusedVariables false
set_option linter.unusedSimpArgs false

/-- The first and the last element exchanged. -/
def swapEnds : List Node → List Node
  | [a, b, c, d] => [d, b, c, a]
  | [a, b, c] => [c, b, a]
  | l => l
mutual
def Node.inv : Node → Node
  | ⟨k, n, s, ks⟩ => ⟨invKind k, n, s, if k == 57 then (invAll ks).reverse else if k == 52 || (k == 53 || k == 54) then swapEnds (invBlocks ks) else invBlocks ks⟩
def invAll : List Node → List Node
  | [] => []
  | t :: ts => t.inv :: invAll ts
def invBlocks : List Node → List Node
  | [] => []
  | t :: ts => (if t.kind == 57 then t.inv else t) :: invBlocks ts
end
theorem Node.inv_eq (t : Node) : t.inv = ⟨invKind t.kind, t.num, t.name, if t.kind == 57 then (invAll t.kids).reverse else if t.kind == 52 || (t.kind == 53 || t.kind == 54) then swapEnds (invBlocks t.kids) else invBlocks t.kids⟩ := by cases t; simp only [Node.inv]
theorem invAll_map (l : List Node) : invAll l = l.map Node.inv := by
  induction l with
  | nil => rfl
  | cons a l ih => simp [invAll, ih]
def invB (t : Node) : Node := if t.kind == 57 then t.inv else t
theorem invBlocks_map (l : List Node) : invBlocks l = l.map invB := by
  induction l with
  | nil => rfl
  | cons a l ih => simp [invBlocks, invB, ih]
theorem Node.inv_kind (t : Node) : t.inv.kind = invKind t.kind := by rw [Node.inv_eq]
theorem Node.inv_num (t : Node) : t.inv.num = t.num := by rw [Node.inv_eq]
theorem Node.inv_name (t : Node) : t.inv.name = t.name := by rw [Node.inv_eq]
theorem swapEnds_length (l : List Node) : (swapEnds l).length = l.length := by
  rcases l with _ | ⟨a, _ | ⟨b, _ | ⟨c, _ | ⟨d, _ | ⟨e, r⟩⟩⟩⟩⟩ <;> rfl
theorem Node.inv_kids_length (t : Node) : t.inv.kids.length = t.kids.length := by
  rw [Node.inv_eq]
  dsimp only
  split
  · simp [invAll_map]
  · split
    · rw [swapEnds_length]; simp [invBlocks_map]
    · simp [invBlocks_map]
end Go.Proofs.YtgjanglonccclaaDoor
