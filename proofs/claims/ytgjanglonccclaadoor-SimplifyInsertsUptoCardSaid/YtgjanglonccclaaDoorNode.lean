/- Trees of the program's language as plain Lean data, and what the functions of packages ast, inverter and simplify compute of them. No program in sight. -/
import Derived.Test.YtgjanglonccclaaDoorLexP
namespace Go.Proofs.YtgjanglonccclaaDoor
open Go.RowKit
set_option linter.unusedVariables false
set_option linter.unusedSimpArgs false

/-- A fact that the walk's simp does not look into. -/
structure Hd (p : Prop) : Prop where mk :: (out : p)

/-- A node of a syntax tree. -/
structure Node where
  kind : Int
  num : Int
  name : ByteArray
  kids : List Node

theorem Node.ind {P : Node → Prop} (h : ∀ t : Node, (∀ k ∈ t.kids, P k) → P t) : ∀ t, P t := by
  intro t
  exact Node.rec (motive_1 := P) (motive_2 := fun l => ∀ k ∈ l, P k) (fun a b c d ih => h ⟨a, b, c, d⟩ ih)
    (fun _ hk => by simp at hk) (fun a l ha hl k hk => by
      rcases List.mem_cons.1 hk with rfl | hk
      · exact ha
      · exact hl k hk) t

theorem Node.eta (t : Node) : (⟨t.kind, t.num, t.name, t.kids⟩ : Node) = t := by cases t; rfl
theorem all_take_succ {α : Type} {P : α → Prop} {l : List α} {j : Nat} (hj : j < l.length) (h : ∀ k ∈ l.take j, P k) (hp : P l[j]) : ∀ k ∈ l.take (j + 1), P k := by
  intro k hk
  rw [List.take_succ_eq_append_getElem hj] at hk
  rcases List.mem_append.1 hk with hk | hk
  · exact h k hk
  · simp at hk; subst hk; exact hp

/-! ### sizes, as the machine adds them up -/
mutual
def Node.sizeW : Node → Int
  | ⟨_, _, _, ks⟩ => sizesW 1 ks
def sizesW : Int → List Node → Int
  | acc, [] => acc
  | acc, k :: ks => sizesW (wrap64 (acc + k.sizeW)) ks
end

theorem Node.sizeW_eq (t : Node) : t.sizeW = sizesW 1 t.kids := by cases t; simp [Node.sizeW]
theorem sizesW_drop {ks : List Node} {j : Nat} (h : j < ks.length) (acc : Int) : sizesW acc (ks.drop j) = sizesW (wrap64 (acc + ks[j].sizeW)) (ks.drop (j + 1)) := by
  rw [List.drop_eq_getElem_cons h, sizesW]

/-! ### expressions, places, statements, blocks -/
def emptyB (s : ByteArray) : Bool := s.toList.isEmpty
mutual
/-- Is a tree a valid expression? -/
def Node.isExpr : Node → Bool
  | ⟨k, n, s, ks⟩ =>
    if k == 1 then decide (0 ≤ n) && (emptyB s && ks.isEmpty)
    else if k == 2 || (k == 4 || k == 5) then n == 0 && (nameB s && ks.isEmpty)
    else if k == 3 then n == 0 && (nameB s && ((ks.length : Int) == 1 && exprsB ks))
    else if k == 6 || k == 7 then n == 0 && (emptyB s && ((ks.length : Int) == 1 && exprsB ks))
    else if decide (8 ≤ k) && decide (k ≤ 23) then n == 0 && (emptyB s && ((ks.length : Int) == 2 && exprsB ks))
    else false
def exprsB : List Node → Bool
  | [] => true
  | k :: ks => Node.isExpr k && exprsB ks
end
theorem exprsB_all (l : List Node) : exprsB l = l.all (Node.isExpr) := by
  induction l with
  | nil => rfl
  | cons k ks ih => simp [exprsB, ih]
def Node.isPlace (t : Node) : Bool := (t.kind == 2 || t.kind == 3) && t.isExpr
def Node.isVar (t : Node) : Bool := t.kind == 2 && t.isExpr
/-- The children of a node pass tests, one each. -/
def shapeB (ks : List Node) (ps : List (Node → Bool)) : Bool := (ks.length == ps.length) && (ks.zip ps).all fun x => x.2 x.1
mutual
def Node.isStmt : Node → Bool
  | ⟨k, n, s, ks⟩ =>
    n == 0 &&
    (if k == 40 || (k == 41 || (k == 42 || k == 56)) then emptyB s && shapeB ks [Node.isPlace, Node.isExpr]
    else if k == 43 then emptyB s && shapeB ks [Node.isPlace, Node.isPlace]
    else if k == 44 || k == 45 then nameB s && shapeB ks [Node.isPlace]
    else if k == 46 || (k == 47 || (k == 48 || k == 49)) then emptyB s && shapeB ks [Node.isPlace]
    else if k == 50 || k == 51 then nameB s && (decide ((ks.length : Int) ≤ 8) && ks.all (Node.isVar))
    else if k == 52 || k == 53 then emptyB s && (match ks with | [a, b, c, d] => a.isExpr && (Node.isBlock b && (Node.isBlock c && d.isExpr)) | _ => false)
    else if k == 54 then nameB s && (match ks with | [a, b, c] => a.isExpr && (Node.isBlock b && c.isExpr) | _ => false)
    else if k == 55 then nameB s && (match ks with | [a] => Node.isBlock a | _ => false)
    else false)
def Node.isBlock : Node → Bool
  | ⟨k, n, s, ks⟩ => k == 57 && (n == 0 && (emptyB s && stmtsB ks))
def stmtsB : List Node → Bool
  | [] => true
  | k :: ks => Node.isStmt k && stmtsB ks
end
theorem stmtsB_all (l : List Node) : stmtsB l = l.all (Node.isStmt) := by
  induction l with
  | nil => rfl
  | cons k ks ih => simp [stmtsB, ih]
theorem shapeB_nil (ks : List Node) : shapeB ks [] = ks.isEmpty := by cases ks <;> simp [shapeB]
theorem Node.isStmt_eq (t : Node) : t.isStmt = (t.num == 0 &&
    (if t.kind == 40 || (t.kind == 41 || (t.kind == 42 || t.kind == 56)) then emptyB t.name && shapeB t.kids [Node.isPlace, Node.isExpr]
    else if t.kind == 43 then emptyB t.name && shapeB t.kids [Node.isPlace, Node.isPlace]
    else if t.kind == 44 || t.kind == 45 then nameB t.name && shapeB t.kids [Node.isPlace]
    else if t.kind == 46 || (t.kind == 47 || (t.kind == 48 || t.kind == 49)) then emptyB t.name && shapeB t.kids [Node.isPlace]
    else if t.kind == 50 || t.kind == 51 then nameB t.name && (decide ((t.kids.length : Int) ≤ 8) && t.kids.all (Node.isVar))
    else if t.kind == 52 || t.kind == 53 then emptyB t.name && shapeB t.kids [Node.isExpr, Node.isBlock, Node.isBlock, Node.isExpr]
    else if t.kind == 54 then nameB t.name && shapeB t.kids [Node.isExpr, Node.isBlock, Node.isExpr]
    else if t.kind == 55 then nameB t.name && shapeB t.kids [Node.isBlock]
    else false)) := by
  obtain ⟨k, n, s, ks⟩ := t
  rcases ks with _ | ⟨a, _ | ⟨b, _ | ⟨c, _ | ⟨d, _ | ⟨e, r⟩⟩⟩⟩⟩ <;> simp only [Node.isStmt, shapeB, List.zip, List.zipWith, List.all_cons, List.all_nil, List.length_cons, List.length_nil, Bool.and_true, Bool.and_false] <;> simp
theorem Node.isBlock_eq (t : Node) : t.isBlock = (t.kind == 57 && (t.num == 0 && (emptyB t.name && t.kids.all Node.isStmt))) := by
  obtain ⟨k, n, s, ks⟩ := t
  simp only [Node.isBlock, stmtsB_all]
theorem Node.isExpr_eq (t : Node) : t.isExpr =
    if t.kind == 1 then decide (0 ≤ t.num) && (emptyB t.name && t.kids.isEmpty)
    else if t.kind == 2 || (t.kind == 4 || t.kind == 5) then t.num == 0 && (nameB t.name && t.kids.isEmpty)
    else if t.kind == 3 then t.num == 0 && (nameB t.name && ((t.kids.length : Int) == 1 && t.kids.all Node.isExpr))
    else if t.kind == 6 || t.kind == 7 then t.num == 0 && (emptyB t.name && ((t.kids.length : Int) == 1 && t.kids.all Node.isExpr))
    else if decide (8 ≤ t.kind) && decide (t.kind ≤ 23) then t.num == 0 && (emptyB t.name && ((t.kids.length : Int) == 2 && t.kids.all Node.isExpr))
    else false := by
  obtain ⟨k, n, s, ks⟩ := t
  simp only [Node.isExpr, exprsB_all]

end Go.Proofs.YtgjanglonccclaaDoor
