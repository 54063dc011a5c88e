/- Programs as plain Lean data: declarations, procedures, programs, and when they are valid. No program in sight. -/
import Derived.Test.YtgjanglonccclaaDoorBA
namespace Go.Proofs.YtgjanglonccclaaDoor
open Go.RowKit
set_option linter.unusedVariables false
set_option linter.unusedSimpArgs false

structure Decl where
  name : ByteArray
  kind : Int
  len : Int
structure Prc where
  name : ByteArray
  params : List Decl
  body : Node
structure Prg where
  vars : List Decl
  procs : List Prc
  main : Node

/-- Depths, as the machine counts. -/
def maxI (a b : Int) : Int := if a < b then b else a
mutual
def Node.depthW : Node → Int
  | ⟨_, _, _, ks⟩ => wrap64 (depthsW 0 ks + 1)
def depthsW : Int → List Node → Int
  | acc, [] => acc
  | acc, k :: ks => depthsW (max acc k.depthW) ks
end
theorem Node.depthW_eq (t : Node) : t.depthW = wrap64 (depthsW 0 t.kids + 1) := by cases t; simp [Node.depthW]
theorem depthsW_drop {ks : List Node} {j : Nat} (h : j < ks.length) (acc : Int) : depthsW acc (ks.drop j) = depthsW (max acc ks[j].depthW) (ks.drop (j + 1)) := by
  rw [List.drop_eq_getElem_cons h, depthsW]

def Decl.ok (d : Decl) : Bool := nameB d.name && (if d.kind == 2 then decide (1 ≤ d.len) && decide (d.len ≤ 16) else (d.kind == 1 || d.kind == 3) && d.len == 0)
def declsB (l : List Decl) (most : Int) : Bool := decide ((l.length : Int) ≤ most) && l.all Decl.ok
def Node.bodyB (t : Node) : Bool := t.isBlock && (decide (t.depthW ≤ 80) && decide (t.sizeW ≤ 2000))
def Prc.okB (f : Prc) : Bool := nameB f.name && (declsB f.params 8 && f.body.bodyB)
def Prg.validB (p : Prg) : Bool := (declsB p.vars 32 && (decide ((p.procs.length : Int) ≤ 64) && p.main.bodyB)) && p.procs.all Prc.okB
end Go.Proofs.YtgjanglonccclaaDoor
