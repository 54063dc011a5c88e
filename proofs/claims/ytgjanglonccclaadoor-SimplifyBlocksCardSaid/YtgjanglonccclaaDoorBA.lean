/- The language's names, as plain Lean. No program in sight. -/
import Derived.RowKit
import Derived.Test.YtgjanglonccclaaDoorProg
import Derived.WalkKit
import Derived.KernelRfl
import Derived.Deep.QuietTactic
import Derived.BigQuiet
import Derived.Deep.LoopGhost
import Derived.Test.YtgjanglonccclaaDoorShelf
import Derived.Lib.SmallJoins
import Derived.Carry
import Derived.Maps.OwnOps
namespace Go.Proofs.YtgjanglonccclaaDoor
open Go.RowKit
set_option linter.unusedVariables false
set_option linter.unusedSimpArgs false

def letterB (c : Int) : Bool := decide (97 ≤ c) && decide (c ≤ 122)
def digitB (c : Int) : Bool := decide (48 ≤ c) && decide (c ≤ 57)
def wordB (c : Int) : Bool := letterB c || digitB c
def spaceB (c : Int) : Bool := c == 32 || c == 9 || c == 13 || c == 10

/-- The keywords, as bytes. -/
def kwBytes : List (List UInt8) :=
  [[105, 110, 116], [97, 114, 114, 97, 121], [115, 116, 97, 99, 107], [112, 114, 111, 99], [109, 97, 105, 110], [112, 117, 115, 104], [112, 111, 112], [114, 101, 97, 100],
   [117, 110, 114, 101, 97, 100], [119, 114, 105, 116, 101], [117, 110, 119, 114, 105, 116, 101], [99, 97, 108, 108], [117, 110, 99, 97, 108, 108], [105, 102], [101, 108, 115, 101], [102, 105],
   [102, 114, 111, 109], [108, 111, 111, 112], [117, 110, 116, 105, 108], [108, 111, 99, 97, 108], [100, 101, 108, 111, 99, 97, 108], [116, 111, 112], [115, 105, 122, 101]]
def keywordB (s : ByteArray) : Bool := kwBytes.contains s.data.toList

/-- How many bytes from the start satisfy p. -/
def spanL (p : Int → Bool) : List UInt8 → Nat
  | [] => 0
  | c :: cs => if p (c.toNat : Int) then spanL p cs + 1 else 0
theorem spanL_le (p : Int → Bool) (l : List UInt8) : spanL p l ≤ l.length := by
  induction l with
  | nil => simp [spanL]
  | cons c cs ih => simp only [spanL]; split <;> simp <;> omega
theorem spanL_all (p : Int → Bool) (l : List UInt8) : (spanL p l == l.length) = l.all fun c => p (c.toNat : Int) := by
  induction l with
  | nil => rfl
  | cons c cs ih =>
    simp only [spanL, List.all_cons, List.length_cons]
    by_cases h : p (c.toNat : Int) = true
    · rw [if_pos h, h, Bool.true_and, ← ih]; simp [Bool.eq_iff_iff]
    · rw [if_neg h]; simp [h]
/-- Position k of the walk along a string: the bytes before k satisfy p. -/
theorem spanL_at {p : Int → Bool} : ∀ {l : List UInt8} {k : Nat}, (∀ c ∈ l.take k, p (c.toNat : Int) = true) → ∀ h : k < l.length, p (l[k].toNat : Int) = false → spanL p l = k
  | [], k, _, h, _ => by simp at h
  | c :: cs, 0, _, _, h0 => by simp at h0; simp [spanL, h0]
  | c :: cs, k + 1, ha, h, h0 => by
    have h1 : p (c.toNat : Int) = true := ha c (by simp)
    simp only [spanL, h1, if_true]
    rw [spanL_at (l := cs) (k := k) (fun d hd => ha d (by simp [hd])) (by simpa using h) (by simpa using h0)]
theorem spanL_full {p : Int → Bool} {l : List UInt8} (ha : ∀ c ∈ l, p (c.toNat : Int) = true) : spanL p l = l.length := by
  have := spanL_all p l
  rw [List.all_eq_true.2 (fun c hc => ha c hc)] at this
  simpa using this

def nameL (l : List UInt8) : Bool :=
  match l with
  | [] => false
  | c :: cs => decide ((c :: cs).length ≤ 16) && !kwBytes.contains (c :: cs) && letterB (c.toNat : Int) && (c :: cs).all fun c => wordB (c.toNat : Int)
/-- Is a string a name? -/
def nameB (s : ByteArray) : Bool := nameL s.data.toList
end Go.Proofs.YtgjanglonccclaaDoor

/- Trees of the program's language as plain Lean data, and what the functions of packages ast, inverter and simplify compute of them. No program in sight. -/
namespace Go.Proofs.YtgjanglonccclaaDoor
open Go.RowKit
set_option linter.unusedVariables false
set_option linter.unusedSimpArgs false

/-- A fact that the walk's simp does not look into. -/
structure Hd (p : Prop) : Prop where mk :: (out : p)

/-- A node of a syntax tree. -/
structure Node where
  kind : Int
  num : Int
  name : ByteArray
  kids : List Node

theorem Node.ind {P : Node → Prop} (h : ∀ t : Node, (∀ k ∈ t.kids, P k) → P t) : ∀ t, P t := by
  intro t
  exact Node.rec (motive_1 := P) (motive_2 := fun l => ∀ k ∈ l, P k) (fun a b c d ih => h ⟨a, b, c, d⟩ ih)
    (fun _ hk => by simp at hk) (fun a l ha hl k hk => by
      rcases List.mem_cons.1 hk with rfl | hk
      · exact ha
      · exact hl k hk) t

theorem Node.eta (t : Node) : (⟨t.kind, t.num, t.name, t.kids⟩ : Node) = t := by cases t; rfl
theorem all_take_succ {α : Type} {P : α → Prop} {l : List α} {j : Nat} (hj : j < l.length) (h : ∀ k ∈ l.take j, P k) (hp : P l[j]) : ∀ k ∈ l.take (j + 1), P k := by
  intro k hk
  rw [List.take_succ_eq_append_getElem hj] at hk
  rcases List.mem_append.1 hk with hk | hk
  · exact h k hk
  · simp at hk; subst hk; exact hp

/-! ### sizes, as the machine adds them up -/
mutual
def Node.sizeW : Node → Int
  | ⟨_, _, _, ks⟩ => sizesW 1 ks
def sizesW : Int → List Node → Int
  | acc, [] => acc
  | acc, k :: ks => sizesW (wrap64 (acc + k.sizeW)) ks
end

theorem Node.sizeW_eq (t : Node) : t.sizeW = sizesW 1 t.kids := by cases t; simp [Node.sizeW]
theorem sizesW_drop {ks : List Node} {j : Nat} (h : j < ks.length) (acc : Int) : sizesW acc (ks.drop j) = sizesW (wrap64 (acc + ks[j].sizeW)) (ks.drop (j + 1)) := by
  rw [List.drop_eq_getElem_cons h, sizesW]

/-! ### expressions, places, statements, blocks -/
def emptyB (s : ByteArray) : Bool := s.toList.isEmpty
mutual
/-- Is a tree a valid expression? -/
def Node.isExpr : Node → Bool
  | ⟨k, n, s, ks⟩ =>
    if k == 1 then decide (0 ≤ n) && (emptyB s && ks.isEmpty)
    else if k == 2 || (k == 4 || k == 5) then n == 0 && (nameB s && ks.isEmpty)
    else if k == 3 then n == 0 && (nameB s && ((ks.length : Int) == 1 && exprsB ks))
    else if k == 6 || k == 7 then n == 0 && (emptyB s && ((ks.length : Int) == 1 && exprsB ks))
    else if decide (8 ≤ k) && decide (k ≤ 23) then n == 0 && (emptyB s && ((ks.length : Int) == 2 && exprsB ks))
    else false
def exprsB : List Node → Bool
  | [] => true
  | k :: ks => Node.isExpr k && exprsB ks
end
theorem exprsB_all (l : List Node) : exprsB l = l.all (Node.isExpr) := by
  induction l with
  | nil => rfl
  | cons k ks ih => simp [exprsB, ih]
def Node.isPlace (t : Node) : Bool := (t.kind == 2 || t.kind == 3) && t.isExpr
def Node.isVar (t : Node) : Bool := t.kind == 2 && t.isExpr
/-- The children of a node pass tests, one each. -/
def shapeB (ks : List Node) (ps : List (Node → Bool)) : Bool := (ks.length == ps.length) && (ks.zip ps).all fun x => x.2 x.1
mutual
def Node.isStmt : Node → Bool
  | ⟨k, n, s, ks⟩ =>
    n == 0 &&
    (if k == 40 || (k == 41 || (k == 42 || k == 56)) then emptyB s && shapeB ks [Node.isPlace, Node.isExpr]
    else if k == 43 then emptyB s && shapeB ks [Node.isPlace, Node.isPlace]
    else if k == 44 || k == 45 then nameB s && shapeB ks [Node.isPlace]
    else if k == 46 || (k == 47 || (k == 48 || k == 49)) then emptyB s && shapeB ks [Node.isPlace]
    else if k == 50 || k == 51 then nameB s && (decide ((ks.length : Int) ≤ 8) && ks.all (Node.isVar))
    else if k == 52 || k == 53 then emptyB s && (match ks with | [a, b, c, d] => a.isExpr && (Node.isBlock b && (Node.isBlock c && d.isExpr)) | _ => false)
    else if k == 54 then nameB s && (match ks with | [a, b, c] => a.isExpr && (Node.isBlock b && c.isExpr) | _ => false)
    else if k == 55 then nameB s && (match ks with | [a] => Node.isBlock a | _ => false)
    else false)
def Node.isBlock : Node → Bool
  | ⟨k, n, s, ks⟩ => k == 57 && (n == 0 && (emptyB s && stmtsB ks))
def stmtsB : List Node → Bool
  | [] => true
  | k :: ks => Node.isStmt k && stmtsB ks
end
theorem stmtsB_all (l : List Node) : stmtsB l = l.all (Node.isStmt) := by
  induction l with
  | nil => rfl
  | cons k ks ih => simp [stmtsB, ih]
theorem shapeB_nil (ks : List Node) : shapeB ks [] = ks.isEmpty := by cases ks <;> simp [shapeB]
theorem Node.isStmt_eq (t : Node) : t.isStmt = (t.num == 0 &&
    (if t.kind == 40 || (t.kind == 41 || (t.kind == 42 || t.kind == 56)) then emptyB t.name && shapeB t.kids [Node.isPlace, Node.isExpr]
    else if t.kind == 43 then emptyB t.name && shapeB t.kids [Node.isPlace, Node.isPlace]
    else if t.kind == 44 || t.kind == 45 then nameB t.name && shapeB t.kids [Node.isPlace]
    else if t.kind == 46 || (t.kind == 47 || (t.kind == 48 || t.kind == 49)) then emptyB t.name && shapeB t.kids [Node.isPlace]
    else if t.kind == 50 || t.kind == 51 then nameB t.name && (decide ((t.kids.length : Int) ≤ 8) && t.kids.all (Node.isVar))
    else if t.kind == 52 || t.kind == 53 then emptyB t.name && shapeB t.kids [Node.isExpr, Node.isBlock, Node.isBlock, Node.isExpr]
    else if t.kind == 54 then nameB t.name && shapeB t.kids [Node.isExpr, Node.isBlock, Node.isExpr]
    else if t.kind == 55 then nameB t.name && shapeB t.kids [Node.isBlock]
    else false)) := by
  obtain ⟨k, n, s, ks⟩ := t
  rcases ks with _ | ⟨a, _ | ⟨b, _ | ⟨c, _ | ⟨d, _ | ⟨e, r⟩⟩⟩⟩⟩ <;> simp only [Node.isStmt, shapeB, List.zip, List.zipWith, List.all_cons, List.all_nil, List.length_cons, List.length_nil, Bool.and_true, Bool.and_false] <;> simp
theorem Node.isBlock_eq (t : Node) : t.isBlock = (t.kind == 57 && (t.num == 0 && (emptyB t.name && t.kids.all Node.isStmt))) := by
  obtain ⟨k, n, s, ks⟩ := t
  simp only [Node.isBlock, stmtsB_all]
theorem Node.isExpr_eq (t : Node) : t.isExpr =
    if t.kind == 1 then decide (0 ≤ t.num) && (emptyB t.name && t.kids.isEmpty)
    else if t.kind == 2 || (t.kind == 4 || t.kind == 5) then t.num == 0 && (nameB t.name && t.kids.isEmpty)
    else if t.kind == 3 then t.num == 0 && (nameB t.name && ((t.kids.length : Int) == 1 && t.kids.all Node.isExpr))
    else if t.kind == 6 || t.kind == 7 then t.num == 0 && (emptyB t.name && ((t.kids.length : Int) == 1 && t.kids.all Node.isExpr))
    else if decide (8 ≤ t.kind) && decide (t.kind ≤ 23) then t.num == 0 && (emptyB t.name && ((t.kids.length : Int) == 2 && t.kids.all Node.isExpr))
    else false := by
  obtain ⟨k, n, s, ks⟩ := t
  simp only [Node.isExpr, exprsB_all]

end Go.Proofs.YtgjanglonccclaaDoor

/- How trees lie in memory: 'Node.In w ok t A c': the children of t lie behind the slice header (A, length, c) of world w, in blocks that satisfy ok. -/
namespace Go.Proofs.YtgjanglonccclaaDoor
open Go.RowKit
set_option linter.unusedVariables false
set_option linter.unusedSimpArgs false

/-- What holds of the plain fields of a node that lies in memory. -/
structure Node.Fits (t : Node) : Prop where
  kind0 : 0 ≤ t.kind
  kind1 : t.kind ≤ 255
  num0 : -9223372036854775808 ≤ t.num
  num1 : t.num ≤ 9223372036854775807
  name : t.name.size ≤ 140737488355328

mutual
def Node.In (w : World) (ok : Nat → Prop) : Node → Option Addr → Nat → Prop
  | ⟨k, n, s, ks⟩, A, c => Node.Fits ⟨k, n, s, ks⟩ ∧ ks.length ≤ c ∧ ks.length * 56 ≤ 140737488355328 ∧ (ks = [] ∨ ∃ b o, A = some ⟨b, o, none⟩ ∧ ok b ∧ RowIn w ok ks b o)
def RowIn (w : World) (ok : Nat → Prop) : List Node → Nat → Nat → Prop
  | [], _, _ => True
  | t :: ts, b, o => (∃ A c, w.cell? ⟨b, o, none⟩ = some (.int .u8 t.kind) ∧ w.cell? ⟨b, o + 1, none⟩ = some (.int .i64 t.num) ∧ w.cell? ⟨b, o + 2, none⟩ = some (.string t.name) ∧
      w.cell? ⟨b, o + 3, none⟩ = some (.slice A t.kids.length c) ∧ Node.In w ok t A c) ∧ RowIn w ok ts b (o + 4)
end
theorem Node.In_eq {w : World} {ok : Nat → Prop} {t : Node} {A : Option Addr} {c : Nat} :
    t.In w ok A c ↔ t.Fits ∧ t.kids.length ≤ c ∧ t.kids.length * 56 ≤ 140737488355328 ∧ (t.kids = [] ∨ ∃ b o, A = some ⟨b, o, none⟩ ∧ ok b ∧ RowIn w ok t.kids b o) := by
  cases t; simp only [Node.In]

/-- The cells of one node at a place. -/
def NodeAt (w : World) (ok : Nat → Prop) (t : Node) (b o : Nat) : Prop :=
  ∃ A c, w.cell? ⟨b, o, none⟩ = some (.int .u8 t.kind) ∧ w.cell? ⟨b, o + 1, none⟩ = some (.int .i64 t.num) ∧ w.cell? ⟨b, o + 2, none⟩ = some (.string t.name) ∧
      w.cell? ⟨b, o + 3, none⟩ = some (.slice A t.kids.length c) ∧ Node.In w ok t A c

theorem RowIn.iff {w : World} {ok : Nat → Prop} {b : Nat} : ∀ {ks : List Node} {o : Nat}, RowIn w ok ks b o ↔ ∀ j (h : j < ks.length), NodeAt w ok ks[j] b (o + j * 4) := by
  intro ks
  induction ks with
  | nil => intro o; simp [RowIn]
  | cons t ts ih =>
    intro o
    rw [RowIn, ih]
    constructor
    · rintro ⟨h0, h⟩ j hj
      cases j with
      | zero => rw [Nat.zero_mul, Nat.add_zero]; exact h0
      | succ j =>
        have := h j (by simpa using hj)
        rw [show o + (j + 1) * 4 = o + 4 + j * 4 by omega]
        exact this
    · intro h
      refine ⟨by have := h 0 (by simp); rw [Nat.zero_mul, Nat.add_zero] at this; exact this, fun j hj => ?_⟩
      have := h (j + 1) (by simpa using hj)
      rw [show o + (j + 1) * 4 = o + 4 + j * 4 by omega] at this
      exact this

theorem Node.In.fits {w : World} {ok : Nat → Prop} {t : Node} {A : Option Addr} {c : Nat} (h : t.In w ok A c) : t.Fits := (Node.In_eq.1 h).1
theorem Node.In.len {w : World} {ok : Nat → Prop} {t : Node} {A : Option Addr} {c : Nat} (h : t.In w ok A c) : t.kids.length ≤ c := (Node.In_eq.1 h).2.1
theorem Node.In.cap {w : World} {ok : Nat → Prop} {t : Node} {A : Option Addr} {c : Nat} (h : t.In w ok A c) : t.kids.length * 56 ≤ 140737488355328 := (Node.In_eq.1 h).2.2.1
theorem Node.In.lenZ {w : World} {ok : Nat → Prop} {t : Node} {A : Option Addr} {c : Nat} (h : t.In w ok A c) : (t.kids.length : Int) ≤ 2513169434916 := by
  have := h.cap; omega

/-- Child j in memory. -/
theorem Node.In.at_ {w : World} {ok : Nat → Prop} {t : Node} {A : Option Addr} {c : Nat} (h : t.In w ok A c) (j : Nat) (hj : j < t.kids.length) :
    ∃ b o A1 c1, A = some ⟨b, o, none⟩ ∧ w.cell? ⟨b, o + j * 4, none⟩ = some (.int .u8 t.kids[j].kind) ∧ w.cell? ⟨b, o + j * 4 + 1, none⟩ = some (.int .i64 t.kids[j].num) ∧
      w.cell? ⟨b, o + j * 4 + 2, none⟩ = some (.string t.kids[j].name) ∧ w.cell? ⟨b, o + j * 4 + 3, none⟩ = some (.slice A1 t.kids[j].kids.length c1) ∧ t.kids[j].In w ok A1 c1 := by
  rcases (Node.In_eq.1 h).2.2.2 with h0 | ⟨b, o, rfl, hb, hr⟩
  · rw [h0] at hj; simp at hj
  · obtain ⟨A1, c1, r⟩ := RowIn.iff.1 hr j hj
    exact ⟨b, o, A1, c1, rfl, r⟩

/-- A reading stands in every world that has the same blocks. -/
theorem Node.In.move {w w' : World} {ok ok' : Nat → Prop} (hb : ∀ b, ok b → b < w.heap.size → w'.heap[b]? = w.heap[b]?) (ho : ∀ b, ok b → b < w.heap.size → ok' b) :
    ∀ (t : Node) {A : Option Addr} {c : Nat}, t.In w ok A c → t.In w' ok' A c := by
  intro t
  induction t using Node.ind with
  | h t ih =>
    intro A c h
    rw [Node.In_eq] at h ⊢
    refine ⟨h.1, h.2.1, h.2.2.1, ?_⟩
    rcases h.2.2.2 with h0 | ⟨b, o, rfl, hok, hr⟩
    · exact .inl h0
    · by_cases hk : t.kids = []
      · exact .inl hk
      · right
        have hr' := RowIn.iff.1 hr
        have hlt : b < w.heap.size := by
          obtain ⟨A1, c1, e0, _⟩ := hr' 0 (List.length_pos_iff.2 hk)
          exact World.block_lt_of_cell? w _ e0
        refine ⟨b, o, rfl, ho b hok hlt, RowIn.iff.2 fun j hj => ?_⟩
        obtain ⟨A1, c1, e0, e1, e2, e3, e4⟩ := hr' j hj
        have hc : ∀ q, w'.cell? ⟨b, q, none⟩ = w.cell? ⟨b, q, none⟩ := fun q => World.cell?_of_block (w := w) (hb b hok hlt)
        exact ⟨A1, c1, by rw [hc]; exact e0, by rw [hc]; exact e1, by rw [hc]; exact e2, by rw [hc]; exact e3, ih _ (List.getElem_mem _) e4⟩

theorem Node.In.below {w w' : World} {ok : Nat → Prop} {t : Node} {A : Option Addr} {c : Nat} (h : t.In w ok A c) (hb : Below w.heap.size w w') : t.In w' ok A c :=
  Node.In.move (fun b _ hl => hb.block b hl) (fun _ h _ => h) t h

/-- A function value of a function with a body is entered. -/
def Goes (fn : FuncId) : Prop := ∀ (args : Array Value) (w : World), (callFunc fn args).run Tryd.prog w = .ok (.enter fn args) w
theorem goes_of {f : FuncId} {fn : Func} {c : Code} (hf : Tryd.prog.funcs[f]? = some fn) (hname : (fn.name == "runtime.NumGoroutine") = false) (hb : fn.body = some c) : Goes f := by
  intro args w
  have h1 : fn.name ≠ "runtime.NumGoroutine" := by simpa using hname
  simp [callFunc, hf, h1, hb, mark]
theorem cell_blk {w : World} {g : Nat} {cs : Array Value} {t : TypeId} {fr : Nat × Nat} (h : w.heap[g]? = some (.cells cs t fr)) (i : Nat) : w.cell? ⟨g, i, none⟩ = cs[i]? := by simp [World.cell?, h]
/-- A block of four cells. -/
theorem four_cells {w : World} {g : Nat} {v0 v1 v2 v3 : Value} {t : TypeId} (h : w.heap[g]? = some (.cells #[v0, v1, v2, v3] t)) :
    w.cell? ⟨g, 0, none⟩ = some v0 ∧ w.cell? ⟨g, 1, none⟩ = some v1 ∧ w.cell? ⟨g, 2, none⟩ = some v2 ∧ w.cell? ⟨g, 3, none⟩ = some v3 := ⟨cell_blk h 0, cell_blk h 1, cell_blk h 2, cell_blk h 3⟩
theorem blk_free {w : World} {g : Nat} {cs : Array Value} {t : TypeId} (h : w.heap[g]? = some (.cells cs t)) (i : Nat) : w.frozen? ⟨g, i, none⟩ = false := by
  simp only [World.frozen?, h, Bool.and_eq_false_iff, decide_eq_false_iff_not]; omega
/-- A store into a block of cells. -/
theorem set_blk {w : World} {g : Nat} {cs : Array Value} {t : TypeId} {fr : Nat × Nat} (h : w.heap[g]? = some (.cells cs t fr)) (i : Nat) (v : Value) : (w.setCell ⟨g, i, none⟩ v).heap[g]? = some (.cells (cs.setIfInBounds i v) t fr) := by
  simp [World.setCell, Array.getElem?_modify, h]
theorem set_other {w : World} {g b i : Nat} {v : Value} (hb : b ≠ g) : (w.setCell ⟨g, i, none⟩ v).heap[b]? = w.heap[b]? := Below.heap_setCell _ _ _ _ hb
theorem ret_int {k : IntKind} {a b : Int} (h : a = b) : Ending.returned (.int k a) = .returned (.int k b) := by rw [h]
theorem ret_bool {a b : Bool} (h : a = b) : Ending.returned (.bool a) = .returned (.bool b) := by rw [h]
/-- Growth on growth. -/
theorem ext_trans {w w1 w2 : World} (h : Below w.heap.size w w1) (k : Below w1.heap.size w1 w2) : Below w.heap.size w w2 := h.trans (k.mono h.size)
theorem ext_alloc {w w1 : World} (h : Below w.heap.size w w1) (o : Obj) : Below w.heap.size w (w1.alloc o) := h.alloc h.size o
/-- Facts on a boxed node behind a call. -/
theorem box_cells {w w1 : World} {v0 v1 v2 v3 : Value} {T : TypeId} (hb : Below (w.alloc (.cells #[v0, v1, v2, v3] T)).heap.size (w.alloc (.cells #[v0, v1, v2, v3] T)) w1) :
    w1.cell? ⟨w.heap.size, 0, none⟩ = some v0 ∧ w1.cell? ⟨w.heap.size, 1, none⟩ = some v1 ∧ w1.cell? ⟨w.heap.size, 2, none⟩ = some v2 ∧ w1.cell? ⟨w.heap.size, 3, none⟩ = some v3 := by
  have h0 : w1.heap[w.heap.size]? = some (.cells #[v0, v1, v2, v3] T) := by
    rw [hb.block _ (by simp)]
    exact (Go.MapKept.heap_alloc w _).1
  exact ⟨cell_blk h0 0, cell_blk h0 1, cell_blk h0 2, cell_blk h0 3⟩

end Go.Proofs.YtgjanglonccclaaDoor

/- Contracts of package lexer: letter, digit, space, span, keywords, Keyword, signs, next, Name. -/
namespace Go.Proofs.YtgjanglonccclaaDoor
open Go.RowKit
set_option linter.unusedVariables false
set_option linter.unusedSimpArgs false

/-- The one variable of Go's library that the code reads holds what it was laid with. -/
def Good (w : World) : Prop := Lib.TabIs Tryd.prog w "strings.asciiSpace" .u8 Lib.asciiSpaceTab
theorem globalSpace : Tryd.prog.globalNamed "strings.asciiSpace" = some 0 := by kernel_rfl
theorem Good.block {w w' : World} (h : Good w) (hb : w'.heap[0]? = w.heap[0]?) : Good w' := by
  unfold Good Lib.TabIs World.var? at *
  rw [globalSpace] at h ⊢
  simp only [Option.bind_some] at h ⊢
  rw [hb]
  exact h
theorem Good.lt {w : World} (h : Good w) : 0 < w.heap.size := by
  unfold Good Lib.TabIs World.var? at h
  rw [globalSpace] at h
  simp only [Option.bind_some] at h
  rcases Nat.lt_or_ge 0 w.heap.size with h1 | h1
  · exact h1
  · rw [Array.getElem?_eq_none h1] at h; simp at h
theorem Good.below {w w' : World} (h : Good w) (hb : Below w.heap.size w w') : Good w' := h.block (hb.block _ h.lt)

theorem letter_any (c : Int) (w : World) : Calls Tryd.prog 75 #[.int .u8 c] w fun e w' => e = .returned (.bool (letterB c)) ∧ w = w' := by
  by_cases h : 97 ≤ c
  · have h1 := Hd.mk (show decide (c ≤ 122) = letterB c by simp [letterB, h])
    go_enter Tryd.func75, Tryd.ntmps75
    go_wp2
    go_ret
    exact ⟨ret_bool h1.out, rfl⟩
  · have h1 := Hd.mk (show false = letterB c by simp [letterB, h])
    go_enter Tryd.func75, Tryd.ntmps75
    go_wp2
    go_ret
    exact ⟨ret_bool h1.out, rfl⟩
theorem digit_any (c : Int) (w : World) : Calls Tryd.prog 78 #[.int .u8 c] w fun e w' => e = .returned (.bool (digitB c)) ∧ w = w' := by
  by_cases h : 48 ≤ c
  · have h1 := Hd.mk (show decide (c ≤ 57) = digitB c by simp [digitB, h])
    go_enter Tryd.func78, Tryd.ntmps78
    go_wp2
    go_ret
    exact ⟨ret_bool h1.out, rfl⟩
  · have h1 := Hd.mk (show false = digitB c by simp [digitB, h])
    go_enter Tryd.func78, Tryd.ntmps78
    go_wp2
    go_ret
    exact ⟨ret_bool h1.out, rfl⟩
theorem space_any (c : Int) (w : World) : Calls Tryd.prog 79 #[.int .u8 c] w fun e w' => e = .returned (.bool (spaceB c)) ∧ w = w' := by
  have h1 := Hd.mk (show (c == 32 || c == 9 || c == 13 || c == 10) = spaceB c from rfl)
  cases a1 : (c == 32)
  · cases a2 : (c == 9)
    · cases a3 : (c == 13)
      · go_enter Tryd.func79, Tryd.ntmps79
        go_wp2
        go_ret
        refine ⟨ret_bool (by rw [← h1.out, a1, a2, a3]; simp), rfl⟩
      · go_enter Tryd.func79, Tryd.ntmps79
        go_wp2
        go_ret
        refine ⟨ret_bool (by rw [← h1.out, a1, a2, a3]; simp), rfl⟩
    · go_enter Tryd.func79, Tryd.ntmps79
      go_wp2
      go_ret
      refine ⟨ret_bool (by rw [← h1.out, a1, a2]; simp), rfl⟩
  · go_enter Tryd.func79, Tryd.ntmps79
    go_wp2
    go_ret
    refine ⟨ret_bool (by rw [← h1.out, a1]; simp), rfl⟩
/-- the closure 'letter or digit' -/
theorem word_any (c : Int) (w : World) : Calls Tryd.prog 77 #[.int .u8 c] w fun e w' => e = .returned (.bool (wordB c)) ∧ w = w' := by
  have h1 := Hd.mk (show (letterB c || digitB c) = wordB c from rfl)
  have HL := Hd.mk (letter_any c w)
  have HD := Hd.mk (digit_any c w)
  cases a1 : letterB c
  · rw [a1] at HL
    go_enter Tryd.func77, Tryd.ntmps77
    go_wp2_with (first | (go_at_call 75; refine (HL.out).mono ?_; rintro e w' ⟨rfl, rfl⟩) | (go_at_call 78; refine (HD.out).mono ?_; rintro e w' ⟨rfl, rfl⟩))
    go_ret
    exact ⟨ret_bool (by rw [← h1.out, a1]; simp), rfl⟩
  · rw [a1] at HL
    go_enter Tryd.func77, Tryd.ntmps77
    go_wp2_with (first | (go_at_call 75; refine (HL.out).mono ?_; rintro e w' ⟨rfl, rfl⟩))
    go_ret
    exact ⟨ret_bool (by rw [← h1.out, a1]; simp), rfl⟩
/-- the closure 'no line end' -/
theorem line_any (c : Int) (w : World) : Calls Tryd.prog 80 #[.int .u8 c] w fun e w' => e = .returned (.bool (c != 10)) ∧ w = w' := by
  go_enter Tryd.func80, Tryd.ntmps80
  go_wp2
  go_ret
  exact ⟨rfl, rfl⟩
end Go.Proofs.YtgjanglonccclaaDoor

/- Contracts of package lexer, second part: span, keywords, Keyword, signs, next, Name. -/
namespace Go.Proofs.YtgjanglonccclaaDoor
open Go.RowKit Go.MapKept
set_option linter.unusedVariables false
set_option linter.unusedSimpArgs false

/-- A test over bytes, as a function value. -/
def ByteTest (fn : FuncId) (p : Int → Bool) : Prop := ∀ (c : Int) (w : World), Calls Tryd.prog fn #[.int .u8 c] w fun e w' => e = .returned (.bool (p c)) ∧ w = w'

theorem byte_at (s : ByteArray) {k : Nat} (h : k < s.size) : s.data.toList[k]'(by rw [Array.length_toList]; exact h) = s[k] := rfl

theorem span_any (s : ByteArray) (hs : s.size ≤ 140737488355328) (fn : FuncId) (hg : Goes fn) (p : Int → Bool) (hp : ByteTest fn p) (w : World) :
    Calls Tryd.prog 76 #[.string s, .func (.func fn) #[] #[]] w fun e w' => e = .returned (.int .i64 (spanL p s.data.toList)) ∧ w = w' := by
  have HP := Hd.mk hp
  have hz : (s.size : Int) ≤ 140737488355328 := by omega
  clear hp
  have hgo : ∀ (args : Array Value) (w : World), (callFunc fn args).run Tryd.prog w = .ok (.enter fn args) w := hg
  clear hg
  go_enter Tryd.func76, Tryd.ntmps76
  go_wp2_with fail
  go_loopw [5] (fun v5 W => ∃ j : Nat, j ≤ s.size ∧ v5 = .int .i64 j ∧ Hd (∀ c ∈ s.data.toList.take j, p (c.toNat : Int) = true) ∧ w = W) (fun v5 _ => s.size - (intOf v5).toNat)
  case atStart => exact ⟨0, Nat.zero_le _, rfl, ⟨by simp⟩, rfl⟩
  case round =>
    obtain ⟨j, hj, rfl, HS, rfl⟩ := hrel
    by_cases hlt : j < s.size
    · have HC := Hd.mk (HP.out (s[j].toNat : Int) w)
      have hj' : j < s.data.toList.length := by rw [Array.length_toList]; exact hlt
      cases hpj : p (s[j].toNat : Int)
      · rw [hpj] at HC
        have HH := Hd.mk hpj
        clear hpj
        go_wp2_with (refine (HC.out).mono ?_; rintro e w' ⟨rfl, rfl⟩)
        go_ret
        exact ⟨ret_int (by rw [spanL_at HS.out hj' HH.out]), rfl⟩
      · rw [hpj] at HC
        have HH := Hd.mk hpj
        clear hpj
        go_wp2_with (refine (HC.out).mono ?_; rintro e w' ⟨rfl, rfl⟩)
        go_roundw
        case rel => exact ⟨j + 1, hlt, by go_num, ⟨all_take_succ hj' HS.out HH.out⟩, by trivial⟩
        case measure => simp [intOf]; omega
    · have : j = s.size := by omega
      subst this
      go_wp2_with fail
      go_ret
      have hl : s.data.toList.length = s.size := by rw [Array.length_toList]; rfl
      exact ⟨ret_int (by rw [spanL_full (by have := HS.out; rwa [← hl, List.take_length] at this), hl]), rfl⟩

def kwText : ByteArray := ⟨#[105, 110, 116, 32, 97, 114, 114, 97, 121, 32, 115, 116, 97, 99, 107, 32, 112, 114, 111, 99, 32, 109, 97, 105, 110, 32, 112, 117, 115, 104, 32, 112, 111, 112, 32, 114, 101, 97, 100, 32, 117, 110, 114, 101, 97, 100, 32, 119, 114, 105, 116, 101, 32, 117, 110, 119, 114, 105, 116, 101, 32, 99, 97, 108, 108, 32, 117, 110, 99, 97, 108, 108, 32, 105, 102, 32, 101, 108, 115, 101, 32, 102, 105, 32, 102, 114, 111, 109, 32, 108, 111, 111, 112, 32, 117, 110, 116, 105, 108, 32, 108, 111, 99, 97, 108, 32, 100, 101, 108, 111, 99, 97, 108, 32, 116, 111, 112, 32, 115, 105, 122, 101]⟩
def signText : ByteArray := ⟨#[60, 61, 62, 32, 58, 61, 32, 43, 61, 32, 45, 61, 32, 94, 61, 32, 61, 61, 32, 33, 61, 32, 60, 61, 32, 62, 61, 32, 38, 38, 32, 124, 124, 32, 43, 32, 45, 32, 42, 32, 47, 32, 37, 32, 38, 32, 124, 32, 94, 32, 33, 32, 61, 32, 60, 32, 62, 32, 40, 32, 41, 32, 123, 32, 125, 32, 91, 32, 93, 32, 59, 32, 44]⟩
theorem kw_fields : Lib.fields kwText.data.toList = kwBytes := by decide +kernel
theorem kw_nodup : kwBytes.Nodup := by decide +kernel

/-- The entries of the map of keywords when k of them have been put in. -/
def kwEntries (k : Nat) : Array MapEntry := ((kwBytes.take k).zipIdx.map fun x => { key := .string ⟨x.1.toArray⟩, val := .bool true, born := x.2 : MapEntry }).toArray

theorem ba_beq (a b : ByteArray) : (a == b) = decide (a.data.toList = b.data.toList) := by
  have h : (a == b) = (a.data == b.data) := by cases a; cases b; rfl
  rw [h, Bool.eq_iff_iff]
  simp [Array.toList_inj]
theorem findNow_no (s : ByteArray) : ∀ (l : List (List UInt8 × Nat)) (i : Nat), (∀ x ∈ l, x.1 ≠ s.data.toList) →
    Instr.findNow .string (.string s) (l.map fun x => { key := .string ⟨x.1.toArray⟩, val := .bool true, born := x.2 : MapEntry }) i = some none
  | [], _, _ => rfl
  | x :: l, i, h => by
    have h1 : (s == (⟨x.1.toArray⟩ : ByteArray)) = false := by
      rw [ba_beq, decide_eq_false_iff_not]
      intro e
      exact h x (by simp) e.symm
    simp only [List.map_cons, Instr.findNow, Instr.sameNow, h1]
    exact findNow_no s l (i + 1) (fun y hy => h y (by simp [hy]))
theorem findNow_yes (s : ByteArray) : ∀ (l : List (List UInt8 × Nat)) (i : Nat), (∃ x ∈ l, x.1 = s.data.toList) →
    ∃ j, Instr.findNow .string (.string s) (l.map fun x => { key := .string ⟨x.1.toArray⟩, val := .bool true, born := x.2 : MapEntry }) i = some (some (j, .bool true))
  | [], _, h => by obtain ⟨x, hx, _⟩ := h; simp at hx
  | x :: l, i, h => by
    cases h1 : (s == (⟨x.1.toArray⟩ : ByteArray)) with
    | true => exact ⟨i, by simp only [List.map_cons, Instr.findNow, Instr.sameNow, h1]⟩
    | false =>
      obtain ⟨y, hy, he⟩ := h
      rcases List.mem_cons.1 hy with rfl | hy
      · exfalso
        rw [ba_beq, decide_eq_false_iff_not] at h1
        exact h1 he.symm
      · obtain ⟨j, hj⟩ := findNow_yes s l (i + 1) ⟨y, hy, he⟩
        exact ⟨j, by simp only [List.map_cons, Instr.findNow, Instr.sameNow, h1]; exact hj⟩

theorem kwEntries_toList (k : Nat) : (kwEntries k).toList = (kwBytes.take k).zipIdx.map fun x => { key := .string ⟨x.1.toArray⟩, val := .bool true, born := x.2 : MapEntry } := rfl
theorem kwEntries_succ {k : Nat} (h : k < kwBytes.length) : kwEntries (k + 1) = (kwEntries k).push { key := .string ⟨kwBytes[k].toArray⟩, val := .bool true, born := k } := by
  apply Array.toList_inj.1
  rw [Array.toList_push, kwEntries_toList, kwEntries_toList, List.take_succ_eq_append_getElem h, List.zipIdx_append, List.map_append]
  simp [Nat.min_eq_left (Nat.le_of_lt h)]

/-- World w with another object in block r. -/
def putObj (w : World) (r : Nat) (o : Obj) : World := { w with heap := w.heap.setIfInBounds r o }
theorem putObj_same {w : World} {r : Nat} {o0 o : Obj} (h : w.heap[r]? = some o0) : (putObj w r o).heap[r]? = some o := (heap_set h).1
theorem putObj_other (w : World) {r b : Nat} (o : Obj) (h : b ≠ r) : (putObj w r o).heap[b]? = w.heap[b]? := by simp [putObj, Ne.symm h]
theorem putObj_below {B : Nat} {w W : World} (h : Below B w W) {r : Nat} (hr : B ≤ r) (o : Obj) : Below B w (putObj W r o) :=
  h.trans ⟨rfl, rfl, rfl, by simp [putObj], fun k hk => putObj_other W o (by omega)⟩

/-- 'set[w] = true' for a word that is not there yet. -/
theorem kw_store (w : World) (r k : Nat) (hk : k < kwBytes.length) (hb : w.heap[r]? = some (.map (kwEntries k) k)) :
    (Instr.mapUpdate 95 (.map (some r)) (.string ⟨kwBytes[k].toArray⟩) (.bool true)).run Tryd.prog w = .ok () (putObj w r (.map (kwEntries (k + 1)) (k + 1))) := by
  have hno : Instr.findNow .string (.string ⟨kwBytes[k].toArray⟩) (kwEntries k).toList 0 = some none := by
    rw [kwEntries_toList]
    refine findNow_no _ _ _ fun x hx e => ?_
    have hx1 : x.1 ∈ kwBytes.take k := List.fst_mem_of_mem_zipIdx hx
    obtain ⟨i, hi, he⟩ := List.mem_take_iff_getElem.1 hx1
    have e2 : x.1 = kwBytes[k] := by simpa using e
    rw [← he] at e2
    have := (List.getElem_inj kw_nodup).1 e2
    omega
  have hkey : IsKey .string (.string ⟨kwBytes[k].toArray⟩) := trivial
  rw [kwEntries_succ hk]
  simp [Instr.mapUpdate, run_underlying Tryd.underlying95, Go.MapKept.run_getObj_map hb, Go.MapKept.run_checkKey Tryd.underlying9 hkey, Go.MapKept.run_findKey Tryd.underlying9 hno, Go.MapKept.run_setObj_map _ hb, Result.andThen, putObj]

theorem kw_lookup (w : World) (r : Nat) (s : ByteArray) (hb : w.heap[r]? = some (.map (kwEntries kwBytes.length) kwBytes.length)) :
    (Instr.lookup 95 (.map (some r)) (.string s) false).run Tryd.prog w = .ok (.bool (keywordB s)) w := by
  have hkey : IsKey .string (.string s) := trivial
  by_cases h : s.data.toList ∈ kwBytes
  · have h1 : keywordB s = true := by simp [keywordB, h]
    obtain ⟨j, hj⟩ : ∃ j, Instr.findNow .string (.string s) (kwEntries kwBytes.length).toList 0 = some (some (j, .bool true)) := by
      rw [kwEntries_toList]
      obtain ⟨i, hi, he⟩ := List.getElem_of_mem h
      exact findNow_yes _ _ _ ⟨(kwBytes[i], i), by rw [List.take_length, List.mem_zipIdx_iff_getElem?]; simp [hi], he⟩
    rw [h1]
    simp [Instr.lookup, run_underlying Tryd.underlying95, Go.MapKept.run_getObj_map hb, Go.MapKept.run_checkKey Tryd.underlying9 hkey, Go.MapKept.run_findKey Tryd.underlying9 hj, Result.andThen]
  · have h1 : keywordB s = false := by simp [keywordB, h]
    have hno : Instr.findNow .string (.string s) (kwEntries kwBytes.length).toList 0 = some none := by
      rw [kwEntries_toList]
      refine findNow_no _ _ _ fun x hx e => ?_
      have hx1 : x.1 ∈ kwBytes.take kwBytes.length := List.fst_mem_of_mem_zipIdx hx
      rw [List.take_length, e] at hx1
      exact h hx1
    rw [h1]
    simp [Instr.lookup, run_underlying Tryd.underlying95, Go.MapKept.run_getObj_map hb, Go.MapKept.run_checkKey Tryd.underlying9 hkey, Go.MapKept.run_findKey Tryd.underlying9 hno, Result.andThen, Tryd.zeroValue4]

theorem kwText_size : kwText.size < 4294967281 := by decide +kernel
theorem kwText_ascii : ∀ (j : Nat) b, kwText.data.toList[j]? = some b → b.toNat < 128 := by
  intro j b h
  have := List.mem_of_getElem? h
  revert b
  have : ∀ b ∈ kwText.data.toList, b.toNat < 128 := by decide +kernel
  exact fun b h1 h2 => this b h2
theorem fields_any (w : World) (hw : Good w) : Calls Tryd.prog 90 #[.string kwText] w fun e w' =>
    e = .returned (.slice (some ⟨w.heap.size, 0, none⟩) kwBytes.length kwBytes.length) ∧ w' = w.alloc (.cells (kwBytes.map fun l => Value.string ⟨l.toArray⟩).toArray 9) := by
  have h := Tryd.strings_Fields kwText w kwText_size kwText_ascii hw
  rw [kw_fields] at h
  exact h

theorem kwCells (w : World) (i : Nat) (hi : i < kwBytes.length) :
    (w.alloc (.cells (kwBytes.map fun l => Value.string ⟨l.toArray⟩).toArray 9)).cell? ⟨w.heap.size, i, none⟩ = some (.string ⟨kwBytes[i].toArray⟩) := by
  have h : (w.alloc (.cells (kwBytes.map fun l => Value.string ⟨l.toArray⟩).toArray 9)).heap[w.heap.size]? = some (.cells (kwBytes.map fun l => Value.string ⟨l.toArray⟩).toArray 9) := (heap_alloc w _).1
  rw [cell_blk h]
  simp [hi]

theorem keywords_any (w : World) (hw : Good w) : Calls Tryd.prog 74 #[] w fun e w' =>
    ∃ r, e = .returned (.map (some r)) ∧ w'.heap[r]? = some (.map (kwEntries kwBytes.length) kwBytes.length) ∧ Below w.heap.size w w' := by
  have HF := Hd.mk (fun (o : Obj) => fields_any (w.alloc o) (hw.below (ext_alloc (Below.refl _ _) _)))
  have hmm := @run_makeMap Tryd.prog
  have hlen : (kwBytes.length : Int) ≤ 1000 := by decide
  go_enter Tryd.func74, Tryd.ntmps74
  go_wp2_with (refine (HF.out _).mono ?_; rintro e w' ⟨rfl, rfl⟩)
  clear hmm
  obtain ⟨B, hB⟩ : ∃ B, w.heap.size = B := ⟨_, rfl⟩
  obtain ⟨W1, hW1⟩ : ∃ W1, (w.alloc (Obj.map #[] 0)).alloc (Obj.cells (kwBytes.map fun l => Value.string ⟨l.toArray⟩).toArray 9) = W1 := ⟨_, rfl⟩
  have HR : Hd (W1.heap[B]? = some (.map (kwEntries 0) 0) ∧ (∀ i (hi : i < kwBytes.length), W1.cell? ⟨B + 1, i, none⟩ = some (.string ⟨kwBytes[i].toArray⟩)) ∧ Below w.heap.size w W1 ∧ B + 1 < W1.heap.size) := by
    subst hB hW1
    refine ⟨?_, ?_, ext_alloc (ext_alloc (Below.refl _ _) _) _, by simp⟩
    · rw [(heap_alloc _ _).2 _ (by simp)]
      exact (heap_alloc w _).1
    · intro i hi
      have := kwCells (w.alloc (Obj.map #[] 0)) i hi
      rw [World.size_alloc] at this
      exact this
  rw [hB, hW1]
  clear hW1 HF hw
  have HB := Hd.mk hB
  clear hB
  go_loopw [3, 7] (fun v3 v7 W => ∃ j : Nat, j ≤ kwBytes.length ∧ v7 = .int .i64 j ∧ Hd (W.heap[B]? = some (.map (kwEntries j) j) ∧ (∀ i (hi : i < kwBytes.length), W.cell? ⟨B + 1, i, none⟩ = some (.string ⟨kwBytes[i].toArray⟩)) ∧ Below w.heap.size w W ∧ B + 1 < W.heap.size)) (fun _ v7 _ => kwBytes.length - (intOf v7).toNat)
  case atStart => exact ⟨0, Nat.zero_le _, rfl, HR⟩
  case round =>
    obtain ⟨j, hj, rfl, HS⟩ := hrel
    by_cases hlt : j < kwBytes.length
    · have hc := HS.out.2.1 j hlt
      have hst := kw_store wr B j hlt HS.out.1
      go_wp2_with fail
      clear hst hc
      go_roundw
      case rel => exact ⟨j + 1, hlt, by go_num, ⟨putObj_same HS.out.1, fun i hi => by rw [World.cell?_of_block (putObj_other _ _ (by simp))]; exact HS.out.2.1 i hi, putObj_below HS.out.2.2.1 (by rw [HB.out]; exact Nat.le_refl _) _, by simpa [putObj] using HS.out.2.2.2⟩⟩
      case measure => simp [intOf]; omega
    · have : j = kwBytes.length := by omega
      subst this
      go_wp2_with fail
      go_ret
      exact ⟨B, rfl, HS.out.1, HS.out.2.2.1⟩

theorem keyword_any (s : ByteArray) (w : World) (hw : Good w) : Calls Tryd.prog 54 #[.string s] w fun e w' => e = .returned (.bool (keywordB s)) ∧ Below w.heap.size w w' := by
  have HK := Hd.mk (keywords_any w hw)
  go_enter Tryd.func54, Tryd.ntmps54
  go_wp2_with (refine (HK.out).mono ?_; rintro e w' ⟨r, rfl, hr, hb⟩; have hl := kw_lookup w' r s hr; have HX := Hd.mk hr; clear hr)
  go_ret
  exact ⟨rfl, hb⟩

theorem sg_nonempty : (Lib.fields signText.data.toList).length ≤ 1000 := by decide +kernel
theorem sg_small : ∀ x ∈ Lib.fields signText.data.toList, x.length ≤ 10 := by decide +kernel
theorem signText_size : signText.size < 4294967281 := by decide +kernel
theorem signText_ascii : ∀ (j : Nat) b, signText.data.toList[j]? = some b → b.toNat < 128 := by
  intro j b h
  have := List.mem_of_getElem? h
  revert b
  have : ∀ b ∈ signText.data.toList, b.toNat < 128 := by decide +kernel
  exact fun b h1 h2 => this b h2
def sgBytes : List (List UInt8) := Lib.fields signText.data.toList
theorem signs_any (w : World) (hw : Good w) : Calls Tryd.prog 81 #[] w fun e w' =>
    ∃ b, e = .returned (.slice (some ⟨b, 0, none⟩) sgBytes.length sgBytes.length) ∧ (∀ i (hi : i < sgBytes.length), w'.cell? ⟨b, i, none⟩ = some (.string ⟨sgBytes[i].toArray⟩)) ∧ Below w.heap.size w w' := by
  have HF := Hd.mk (Tryd.strings_Fields signText w signText_size signText_ascii hw)
  go_enter Tryd.func81, Tryd.ntmps81
  go_wp2_with (refine (HF.out).mono ?_; rintro e w' ⟨rfl, rfl⟩)
  go_ret
  refine ⟨w.heap.size, rfl, fun i hi => ?_, ext_alloc (Below.refl _ _) _⟩
  rw [cell_blk (heap_alloc w _).1]
  simp [sgBytes] at hi ⊢
end Go.Proofs.YtgjanglonccclaaDoor

/- Contracts of lexer.next and lexer.Name. -/
namespace Go.Proofs.YtgjanglonccclaaDoor
open Go.RowKit
set_option linter.unusedVariables false
set_option linter.unusedSimpArgs false

theorem goes_word : Goes 77 := goes_of Tryd.func77 (by kernel_rfl) rfl
theorem goes_line : Goes 80 := goes_of Tryd.func80 (by kernel_rfl) rfl
theorem goes_digit : Goes 78 := goes_of Tryd.func78 (by kernel_rfl) rfl
theorem goes_space : Goes 79 := goes_of Tryd.func79 (by kernel_rfl) rfl

/-- What next says of a string that begins with a letter. -/
theorem next_word (s : ByteArray) (hs : s.size ≤ 140737488355328) (h0 : 0 < s.size) (hl : letterB (s[0].toNat : Int) = true) (w : World) :
    Calls Tryd.prog 55 #[.string s] w fun e w' => e = .returned (.tuple #[.int .u8 1, .int .i64 (spanL wordB s.data.toList)]) ∧ w = w' := by
  have HL := Hd.mk (letter_any (s[0].toNat : Int) w)
  rw [hl] at HL
  have HS := Hd.mk (span_any s hs _ goes_word wordB word_any w)
  clear hl
  go_enter Tryd.func55, Tryd.ntmps55
  go_wp2_with (first | (go_at_call 75; refine (HL.out).mono ?_; rintro e w' ⟨rfl, rfl⟩) | (go_at_call 76; refine (HS.out).mono ?_; rintro e w' ⟨rfl, rfl⟩))
  go_ret2
  exact ⟨rfl, rfl⟩

def OtherToken (w : World) (e : Ending) (w' : World) : Prop := ∃ k n : Int, e = .returned (.tuple #[.int .u8 k, .int .i64 n]) ∧ (k == 1) = false ∧ Below w.heap.size w w'

/-- What next says of another string. -/
theorem next_other (s : ByteArray) (hs : s.size ≤ 140737488355328) (h0 : 0 < s.size) (hl : letterB (s[0].toNat : Int) = false) (w : World) (hw : Good w) :
    Calls Tryd.prog 55 #[.string s] w (OtherToken w) := by
  have HL := Hd.mk (letter_any (s[0].toNat : Int) w)
  rw [hl] at HL
  have HD := Hd.mk (digit_any (s[0].toNat : Int) w)
  have HP := Hd.mk (space_any (s[0].toNat : Int) w)
  have HSd := Hd.mk (span_any s hs _ goes_digit digitB digit_any w)
  have HSs := Hd.mk (span_any s hs _ goes_space spaceB space_any w)
  have HSl := Hd.mk (span_any s hs _ goes_line (fun c => c != 10) line_any w)
  have HG := Hd.mk (signs_any w hw)
  clear hl
  cases a1 : digitB (s[0].toNat : Int)
  · rw [a1] at HD
    clear a1
    cases a2 : spaceB (s[0].toNat : Int)
    · rw [a2] at HP
      clear a2
      cases a3 : ((s[0].toNat : Int) == 35)
      · have HZ := Hd.mk sg_nonempty
        go_enter Tryd.func55, Tryd.ntmps55
        go_wp2_with (first | (go_at_call 75; refine (HL.out).mono ?_; rintro e w' ⟨rfl, rfl⟩) | (go_at_call 78; refine (HD.out).mono ?_; rintro e w' ⟨rfl, rfl⟩) | (go_at_call 79; refine (HP.out).mono ?_; rintro e w' ⟨rfl, rfl⟩) | (go_at_call 81; refine (HG.out).mono ?_; rintro e w1 ⟨b, rfl, hc, hb⟩; have HC := Hd.mk hc; clear hc; have hlen : (sgBytes.length : Int) ≤ 1000 := by have := HZ.out; unfold sgBytes; omega))
        go_loopw [6, 31] (fun v6 v31 W => ∃ j : Nat, j ≤ sgBytes.length ∧ v31 = .int .i64 j ∧ w1 = W) (fun _ v31 _ => sgBytes.length - (intOf v31).toNat)
        case atStart => exact ⟨0, Nat.zero_le _, rfl, by trivial⟩
        case round =>
          obtain ⟨j, hj, rfl, rfl⟩ := hrel
          by_cases hlt : j < sgBytes.length
          · have hcell := HC.out j hlt
            have HH := Hd.mk (Tryd.strings_HasPrefix s ⟨sgBytes[j].toArray⟩ w1)
            cases hp : Lib.hasPrefix s.data.toList (⟨sgBytes[j].toArray⟩ : ByteArray).data.toList
            · rw [hp] at HH
              clear hp
              go_wp2_with (go_at_call 82; refine (HH.out).mono ?_; rintro e w' ⟨rfl, rfl⟩)
              go_roundw
              case rel => exact ⟨j + 1, hlt, by go_num, by trivial⟩
              case measure => simp [intOf]; omega
            · rw [hp] at HH
              clear hp
              go_wp2_with (go_at_call 82; refine (HH.out).mono ?_; rintro e w' ⟨rfl, rfl⟩)
              go_ret2
              exact ⟨3, _, rfl, rfl, hb⟩
          · have : j = sgBytes.length := by omega
            subst this
            go_wp2_with fail
            go_ret2
            exact ⟨0, 0, rfl, rfl, hb⟩
      · go_enter Tryd.func55, Tryd.ntmps55
        go_wp2_with (first | (go_at_call 75; refine (HL.out).mono ?_; rintro e w' ⟨rfl, rfl⟩) | (go_at_call 78; refine (HD.out).mono ?_; rintro e w' ⟨rfl, rfl⟩) | (go_at_call 79; refine (HP.out).mono ?_; rintro e w' ⟨rfl, rfl⟩) | (go_at_call 76; refine (HSl.out).mono ?_; rintro e w' ⟨rfl, rfl⟩))
        go_ret2
        exact ⟨5, _, rfl, rfl, Below.refl _ _⟩
    · rw [a2] at HP
      clear a2
      go_enter Tryd.func55, Tryd.ntmps55
      go_wp2_with (first | (go_at_call 75; refine (HL.out).mono ?_; rintro e w' ⟨rfl, rfl⟩) | (go_at_call 78; refine (HD.out).mono ?_; rintro e w' ⟨rfl, rfl⟩) | (go_at_call 79; refine (HP.out).mono ?_; rintro e w' ⟨rfl, rfl⟩) | (go_at_call 76; refine (HSs.out).mono ?_; rintro e w' ⟨rfl, rfl⟩))
      go_ret2
      exact ⟨4, _, rfl, rfl, Below.refl _ _⟩
  · rw [a1] at HD
    clear a1
    go_enter Tryd.func55, Tryd.ntmps55
    go_wp2_with (first | (go_at_call 75; refine (HL.out).mono ?_; rintro e w' ⟨rfl, rfl⟩) | (go_at_call 78; refine (HD.out).mono ?_; rintro e w' ⟨rfl, rfl⟩) | (go_at_call 76; refine (HSd.out).mono ?_; rintro e w' ⟨rfl, rfl⟩))
    go_ret2
    exact ⟨2, _, rfl, rfl, Below.refl _ _⟩

theorem nameB_size {s : ByteArray} (h : s.size = 0) : nameB s = false := by
  have : s.data.toList = [] := List.eq_nil_of_length_eq_zero (by rw [Array.length_toList]; exact h)
  simp [nameB, nameL, this]
theorem toList_cons {s : ByteArray} (h : 0 < s.size) : ∃ c cs, s.data.toList = c :: cs ∧ s[0] = c := by
  have hl : s.data.toList.length = s.size := by rw [Array.length_toList]; rfl
  cases hd : s.data.toList with
  | nil => rw [hd] at hl; simp at hl; omega
  | cons c cs =>
    refine ⟨c, cs, rfl, ?_⟩
    have h1 : s.data.toList[0]'(by omega) = s[0] := rfl
    rw [← h1]
    simp [hd]
theorem nameB_long {s : ByteArray} (h : 16 < s.size) : nameB s = false := by
  obtain ⟨c, cs, hd, _⟩ := toList_cons (s := s) (by omega)
  have hl : s.data.toList.length = s.size := by rw [Array.length_toList]; rfl
  rw [hd] at hl
  simp only [nameB, nameL, hd]
  rw [decide_eq_false (by omega)]; simp
theorem nameB_kw {s : ByteArray} (h : keywordB s = true) (h0 : 0 < s.size) : nameB s = false := by
  obtain ⟨c, cs, hd, _⟩ := toList_cons h0
  simp only [keywordB, hd] at h
  simp only [nameB, nameL, hd, h]; simp
theorem nameB_other {s : ByteArray} (h0 : 0 < s.size) (h : letterB (s[0].toNat : Int) = false) : nameB s = false := by
  obtain ⟨c, cs, hd, he⟩ := toList_cons h0
  rw [he] at h
  simp only [nameB, nameL, hd, h]; simp
theorem nameB_word {s : ByteArray} (h0 : 0 < s.size) (h16 : s.size ≤ 16) (hk : keywordB s = false) (h : letterB (s[0].toNat : Int) = true) : decide ((spanL wordB s.data.toList : Int) = (s.size : Int)) = nameB s := by
  have hl : s.data.toList.length = s.size := by rw [Array.length_toList]; rfl
  obtain ⟨c, cs, hd, he⟩ := toList_cons h0
  rw [he] at h
  have h1 := spanL_all wordB s.data.toList
  simp only [keywordB, hd] at hk
  have h2 : decide ((c :: cs).length ≤ 16) = true := by rw [← hd, hl]; simpa using h16
  simp only [nameB, nameL, hd, hk, h, h2, Bool.not_false, Bool.true_and]
  rw [← hd, ← h1, hl, Bool.eq_iff_iff]
  simp only [decide_eq_true_eq, beq_iff_eq]; omega

theorem name_any (s : ByteArray) (hs : s.size ≤ 140737488355328) (w : World) (hw : Good w) :
    Calls Tryd.prog 32 #[.string s] w fun e w' => e = .returned (.bool (nameB s)) ∧ Below w.heap.size w w' := by
  have hz : (s.size : Int) ≤ 140737488355328 := by omega
  by_cases h0 : s.size = 0
  · have HN := Hd.mk (nameB_size h0).symm
    have hz1 : ((s.size : Int) == 0) = true := by rw [h0]; rfl
    clear h0
    go_enter Tryd.func32, Tryd.ntmps32
    go_wp2_with fail
    go_ret
    exact ⟨ret_bool HN.out, Below.refl _ _⟩
  · have hz0 : ((s.size : Int) == 0) = false := by rw [beq_eq_false_iff_ne]; omega
    have hpos : 0 < s.size := by omega
    by_cases h16 : 16 < s.size
    · have HN := Hd.mk (nameB_long h16).symm
      have hz1 : decide ((16 : Int) < (s.size : Int)) = true := by simp; omega
      clear h0 h16
      go_enter Tryd.func32, Tryd.ntmps32
      go_wp2_with fail
      go_ret
      exact ⟨ret_bool HN.out, Below.refl _ _⟩
    · have hz1 : decide ((16 : Int) < (s.size : Int)) = false := by simp; omega
      have HK := Hd.mk (keyword_any s w hw)
      cases hk : keywordB s
      · rw [hk] at HK
        cases hl : letterB (s[0].toNat : Int)
        · have HN := Hd.mk (nameB_other hpos hl).symm
          have HX := Hd.mk (fun w1 (hb : Below w.heap.size w w1) => next_other s hs hpos hl w1 (hw.below hb))
          clear hk hl h0 h16
          go_enter Tryd.func32, Tryd.ntmps32
          go_wp2_with (first | (go_at_call 54; refine (HK.out).mono ?_; rintro e w1 ⟨rfl, hb⟩) | (go_at_call 55; refine (HX.out _ hb).mono ?_; rintro e w2 ⟨k, n, rfl, hkn, hb2⟩))
          go_ret
          exact ⟨ret_bool HN.out, ext_trans hb hb2⟩
        · have HN := Hd.mk (nameB_word hpos (by omega) hk hl)
          have HX := Hd.mk (fun w1 => next_word s hs hpos hl w1)
          have hsp : (spanL wordB s.data.toList : Int) ≤ 140737488355328 := by
            have := spanL_le wordB s.data.toList
            have hl : s.data.toList.length = s.size := by rw [Array.length_toList]; rfl
            omega
          clear hk hl h0 h16
          go_enter Tryd.func32, Tryd.ntmps32
          go_wp2_with (first | (go_at_call 54; refine (HK.out).mono ?_; rintro e w1 ⟨rfl, hb⟩) | (go_at_call 55; refine (HX.out _).mono ?_; rintro e w2 ⟨rfl, rfl⟩))
          go_ret
          refine ⟨ret_bool ?_, hb⟩
          have := HN.out
          rw [← this]
          first | rfl | (rw [Bool.eq_iff_iff]; simp)
      · rw [hk] at HK
        have HN := Hd.mk (nameB_kw hk hpos).symm
        clear hk h0 h16
        go_enter Tryd.func32, Tryd.ntmps32
        go_wp2_with (first | (go_at_call 54; refine (HK.out).mono ?_; rintro e w1 ⟨rfl, hb⟩))
        go_ret
        exact ⟨ret_bool HN.out, hb⟩
end Go.Proofs.YtgjanglonccclaaDoor

/- Contracts of ast.bare, ast.Size, slices.IndexFunc and slices.ContainsFunc over nodes. -/
namespace Go.Proofs.YtgjanglonccclaaDoor
open Go.RowKit
set_option linter.unusedVariables false
set_option linter.unusedSimpArgs false

theorem bare_any (t : Node) (A : Option Addr) (c : Nat) (w : World) :
    Calls Tryd.prog 31 #[.agg #[.int .u8 t.kind, .int .i64 t.num, .string t.name, .slice A t.kids.length c]] w fun e w' => e = .returned (.bool (t.num == 0)) ∧ Below w.heap.size w w' := by
  go_enter Tryd.func31, Tryd.ntmps31
  go_wp2
  go_ret
  exact ⟨rfl, ext_alloc (Below.refl _ _) _⟩

theorem size_any (t : Node) : ∀ (A : Option Addr) (c : Nat) (w : World) (ok : Nat → Prop) (h : t.In w ok A c),
    Calls Tryd.prog 11 #[.agg #[.int .u8 t.kind, .int .i64 t.num, .string t.name, .slice A t.kids.length c]] w fun e w' => e = .returned (.int .i64 t.sizeW) ∧ Below w.heap.size w w' := by
  induction t using Node.ind with
  | h t ih =>
  intro A c w ok h
  have H := Hd.mk h
  have IH := Hd.mk ih
  have hl := h.lenZ
  clear h ih
  go_enter Tryd.func11, Tryd.ntmps11
  go_wp2_with fail
  go_loopw [3,5,9] (fun v3 v5 v9 W => ∃ j : Nat, ∃ m : Int, j ≤ t.kids.length ∧ v9 = .int .i64 j ∧ v3 = .int .i64 m ∧ Hd (sizesW m (t.kids.drop j) = t.sizeW) ∧ Below w.heap.size w W) (fun _ _ v9 _ => t.kids.length - (intOf v9).toNat)
  case atStart => exact ⟨0, 1, Nat.zero_le _, rfl, rfl, ⟨by rw [Node.sizeW_eq]; rfl⟩, ext_alloc (Below.refl _ _) _⟩
  case round =>
    obtain ⟨j, m, hj, rfl, rfl, HS, HB⟩ := hrel
    by_cases hlt : j < t.kids.length
    · obtain ⟨b, o, A1, c1, rfl, e0, e1, e2, e3, h4⟩ := (H.out.below HB).at_ j hlt
      have IH1 := Hd.mk (IH.out t.kids[j] (List.getElem_mem _))
      go_wp2_with (go_at_call 11; refine (IH1.out A1 c1 _ ok (h4.below (ext_alloc (Below.refl _ _) _))).mono ?_; rintro e w' ⟨rfl, hb⟩)
      go_roundw
      case rel => exact ⟨j + 1, _, hlt, by go_num, rfl, ⟨by rw [← HS.out, sizesW_drop hlt]⟩, (ext_trans HB (ext_trans (ext_alloc (Below.refl _ _) _) hb))⟩
      case measure => simp [intOf]; omega
    · have : j = t.kids.length := by omega
      subst this
      go_wp2_with fail
      go_ret
      exact ⟨ret_int (by have := HS.out; rw [List.drop_length] at this; exact this), HB⟩

/-- A test over nodes, as a function value: wherever a node lies, it returns p of it and lets stand what was there. -/
def Tests (fn : FuncId) (cap : Array Value) (p : Node → Bool) (w : World) (ok : Nat → Prop) (t : Node) : Prop :=
  ∀ (W : World) (A : Option Addr) (c : Nat) (args : Array Value), Below w.heap.size w W → t.In W ok A c → args = #[.agg #[.int .u8 t.kind, .int .i64 t.num, .string t.name, .slice A t.kids.length c]] ++ cap →
    Calls Tryd.prog fn args W fun e W' => e = .returned (.bool (p t)) ∧ Below W.heap.size W W'

def idxW (p : Node → Bool) (l : List Node) : Int := if l.any p then (l.findIdx p : Int) else -1
theorem idxW_hit {p : Node → Bool} {l : List Node} {j : Nat} (hj : j < l.length) (h : ∀ k ∈ l.take j, p k = false) (hp : p l[j] = true) : (j : Int) = idxW p l := by
  have h1 : l.any p = true := List.any_eq_true.2 ⟨l[j], List.getElem_mem _, hp⟩
  have h2 : l.findIdx p = j := by
    rw [List.findIdx_eq hj]
    refine ⟨hp, fun i hi => ?_⟩
    exact h _ (List.mem_take_iff_getElem.2 ⟨i, by omega, rfl⟩)
  simp [idxW, h1, h2]
theorem idxW_miss {p : Node → Bool} {l : List Node} (h : ∀ k ∈ l, p k = false) : (-1 : Int) = idxW p l := by
  have h1 : l.any p = false := List.any_eq_false.2 (fun k hk => by simp [h k hk])
  simp [idxW, h1]
theorem idxW_any (p : Node → Bool) (l : List Node) : decide (idxW p l ≥ 0) = l.any p := by
  unfold idxW
  cases l.any p <;> simp
theorem index_any (t : Node) (A : Option Addr) (c : Nat) (w : World) (ok : Nat → Prop) (h : t.In w ok A c) (fn : FuncId) (hg : Goes fn) (p : Node → Bool)
    (hp : ∀ k ∈ t.kids, Tests fn #[] p w ok k) :
    Calls Tryd.prog 57 #[.slice A t.kids.length c, .func (.func fn) #[] #[]] w
      fun e w' => e = .returned (.int .i64 (idxW p t.kids)) ∧ Below w.heap.size w w' := by
  have H := Hd.mk h
  have HP := Hd.mk hp
  have hl := h.lenZ
  clear h hp
  have hgo : ∀ (args : Array Value) (w : World), (callFunc fn args).run Tryd.prog w = .ok (.enter fn args) w := hg
  clear hg
  go_enter Tryd.func57, Tryd.ntmps57
  go_wp2_with fail
  go_loopw [5,8] (fun v5 v8 W => ∃ j : Nat, j ≤ t.kids.length ∧ v8 = .int .i64 j ∧ Hd (∀ k ∈ t.kids.take j, p k = false) ∧ Below w.heap.size w W) (fun _ v8 _ => t.kids.length - (intOf v8).toNat)
  case atStart => exact ⟨0, Nat.zero_le _, rfl, ⟨by simp⟩, Below.refl _ _⟩
  case round =>
    obtain ⟨j, hj, rfl, HS, HB⟩ := hrel
    by_cases hlt : j < t.kids.length
    · obtain ⟨b, o, A1, c1, rfl, e0, e1, e2, e3, h4⟩ := (H.out.below HB).at_ j hlt
      have HC := Hd.mk (HP.out t.kids[j] (List.getElem_mem _) wr A1 c1 _ HB h4 rfl)
      cases hpj : p t.kids[j]
      · rw [hpj] at HC
        have HH := Hd.mk hpj
        clear hpj
        go_wp2_with (refine (HC.out).mono ?_; rintro e w' ⟨rfl, hb⟩)
        go_roundw
        case rel => exact ⟨j + 1, hlt, by go_num, ⟨all_take_succ hlt HS.out HH.out⟩, ext_trans HB hb⟩
        case measure => simp [intOf]; omega
      · rw [hpj] at HC
        have HH := Hd.mk hpj
        clear hpj
        go_wp2_with (refine (HC.out).mono ?_; rintro e w' ⟨rfl, hb⟩)
        go_ret
        exact ⟨ret_int (idxW_hit hlt HS.out HH.out), ext_trans HB hb⟩
    · have : j = t.kids.length := by omega
      subst this
      go_wp2_with fail
      go_ret
      exact ⟨ret_int (idxW_miss (by have := HS.out; rwa [List.take_length] at this)), HB⟩

theorem contains_any (t : Node) (A : Option Addr) (c : Nat) (w : World) (ok : Nat → Prop) (h : t.In w ok A c) (fn : FuncId) (hg : Goes fn) (p : Node → Bool)
    (hp : ∀ k ∈ t.kids, Tests fn #[] p w ok k) :
    Calls Tryd.prog 36 #[.slice A t.kids.length c, .func (.func fn) #[] #[]] w
      fun e w' => e = .returned (.bool (t.kids.any p)) ∧ Below w.heap.size w w' := by
  have HI := Hd.mk (index_any t A c w ok h fn hg p hp)
  have HX := Hd.mk (idxW_any p t.kids)
  clear h hp
  go_enter Tryd.func36, Tryd.ntmps36
  go_wp2_with (refine (HI.out).mono ?_; rintro e w' ⟨rfl, hb⟩)
  go_ret
  exact ⟨ret_bool (by rw [← HX.out]), hb⟩
end Go.Proofs.YtgjanglonccclaaDoor

/- Contracts of ast.exprs and ast.IsExpr. -/
namespace Go.Proofs.YtgjanglonccclaaDoor
open Go.RowKit
set_option linter.unusedVariables false
set_option linter.unusedSimpArgs false

/-- What IsExpr does with a tree. -/
def ExprRuns (t : Node) : Prop := ∀ (A : Option Addr) (c : Nat) (w : World) (ok : Nat → Prop), Good w → t.In w ok A c →
  Calls Tryd.prog 35 #[.agg #[.int .u8 t.kind, .int .i64 t.num, .string t.name, .slice A t.kids.length c]] w fun e w' => e = .returned (.bool t.isExpr) ∧ Below w.heap.size w w'

theorem goes_exprs1 : Goes 83 := goes_of Tryd.func83 (by kernel_rfl) rfl
theorem exprs1_any (t : Node) (ht : ExprRuns t) (A : Option Addr) (c : Nat) (w : World) (ok : Nat → Prop) (hw : Good w) (h : t.In w ok A c) :
    Calls Tryd.prog 83 #[.agg #[.int .u8 t.kind, .int .i64 t.num, .string t.name, .slice A t.kids.length c]] w fun e w' => e = .returned (.bool !t.isExpr) ∧ Below w.heap.size w w' := by
  have HT := Hd.mk (fun W hb => ht A c W ok (hw.below hb) (h.below hb))
  clear hw h ht
  go_enter Tryd.func83, Tryd.ntmps83
  go_wp2_with (go_at_call 35; refine (HT.out _ (ext_alloc (Below.refl _ _) _)).mono ?_; rintro e w1 ⟨rfl, hb⟩)
  go_ret
  exact ⟨rfl, ext_trans (ext_alloc (Below.refl _ _) _) hb⟩

theorem exprs_any (t : Node) (many : Int) (A : Option Addr) (c : Nat) (w : World) (ok : Nat → Prop) (hw : Good w) (h : t.In w ok A c) (ht : ∀ k ∈ t.kids, ExprRuns k) :
    Calls Tryd.prog 56 #[.slice A t.kids.length c, .int .i64 many] w fun e w' => e = .returned (.bool ((t.kids.length : Int) == many && t.kids.all Node.isExpr)) ∧ Below w.heap.size w w' := by
  have HC := Hd.mk (contains_any t A c w ok h _ goes_exprs1 (fun k => !k.isExpr) (fun k hk W A1 c1 args hb hin ha => by subst ha; exact exprs1_any k (ht k hk) A1 c1 W ok (hw.below hb) hin))
  have hl := h.lenZ
  have HX := Hd.mk (show (!t.kids.any fun k => !k.isExpr) = t.kids.all Node.isExpr by rw [List.not_any_eq_all_not]; simp)
  clear h ht hw
  cases hm : ((t.kids.length : Int) == many)
  · go_enter Tryd.func56, Tryd.ntmps56
    go_wp2_with fail
    go_ret
    exact ⟨rfl, Below.refl _ _⟩
  · go_enter Tryd.func56, Tryd.ntmps56
    go_wp2_with (refine (HC.out).mono ?_; rintro e w1 ⟨rfl, hb⟩)
    go_ret
    exact ⟨ret_bool (by rw [Bool.true_and, ← HX.out]), hb⟩

theorem len_zero_beq {α : Type} (l : List α) : ((l.length : Int) == 0) = l.isEmpty := by cases l <;> simp <;> omega

set_option maxHeartbeats 8000000 in
theorem isExpr_any (t : Node) : ExprRuns t := by
  induction t using Node.ind with
  | h t ih =>
  intro A c w ok hw h
  have HB := Hd.mk (bare_any t A c)
  have HN := Hd.mk (fun W hb => name_any t.name h.fits.name W (hw.below (w' := W) hb))
  have HE := Hd.mk (fun W hb (m : Int) => exprs_any t m A c W ok (hw.below (w' := W) hb) (h.below hb) ih)
  have hl := h.lenZ
  have HX := Hd.mk t.isExpr_eq
  clear hw h ih
  cases k1 : (t.kind == 1)
  · rw [k1, if_neg (by decide)] at HX
    cases k2 : (t.kind == 2)
    · cases k4 : (t.kind == 4)
      · cases k5 : (t.kind == 5)
        · rw [k2, k4, k5, if_neg (by decide)] at HX
          cases k3 : (t.kind == 3)
          · rw [k3, if_neg (by decide)] at HX
            cases k6 : (t.kind == 6)
            · cases k7 : (t.kind == 7)
              · rw [k6, k7, if_neg (by decide)] at HX
                cases k8 : decide (8 ≤ t.kind)
                · rw [k8, if_neg (by simp)] at HX
                  go_enter Tryd.func35, Tryd.ntmps35
                  go_wp2_with fail
                  go_ret
                  exact ⟨ret_bool HX.out.symm, ext_alloc (Below.refl _ _) _⟩
                · cases k23 : decide (t.kind ≤ 23)
                  · rw [k8, k23, if_neg (by simp)] at HX
                    go_enter Tryd.func35, Tryd.ntmps35
                    go_wp2_with fail
                    go_ret
                    exact ⟨ret_bool HX.out.symm, ext_alloc (Below.refl _ _) _⟩
                  · rw [k8, k23, if_pos (by simp)] at HX
                    cases a1 : (t.num == 0)
                    · rw [a1] at HB
                      go_enter Tryd.func35, Tryd.ntmps35
                      go_wp2_with (first | (go_at_call 31; refine (HB.out _).mono ?_; rintro e w1 ⟨rfl, hb⟩; obtain ⟨x0, x1, x2, x3⟩ := box_cells hb) | (go_at_call 32; refine (HN.out _ (ext_trans (ext_alloc (Below.refl _ _) _) hb)).mono ?_; rintro e w2 ⟨rfl, hb2⟩; obtain ⟨y0, y1, y2, y3⟩ := box_cells (ext_trans hb hb2); have hb := ext_trans hb hb2) | (go_at_call 56; refine (HE.out _ (ext_trans (ext_alloc (Below.refl _ _) _) hb) _).mono ?_; rintro e w3 ⟨rfl, hb3⟩; have hb := ext_trans hb hb3))
                      go_ret
                      exact ⟨ret_bool (by rw [HX.out]; simp [a1]), ext_trans (ext_alloc (Below.refl _ _) _) hb⟩
                    · rw [a1] at HB
                      cases a2 : t.name.toList.isEmpty
                      ·
                        go_enter Tryd.func35, Tryd.ntmps35
                        go_wp2_with (first | (go_at_call 31; refine (HB.out _).mono ?_; rintro e w1 ⟨rfl, hb⟩; obtain ⟨x0, x1, x2, x3⟩ := box_cells hb) | (go_at_call 32; refine (HN.out _ (ext_trans (ext_alloc (Below.refl _ _) _) hb)).mono ?_; rintro e w2 ⟨rfl, hb2⟩; obtain ⟨y0, y1, y2, y3⟩ := box_cells (ext_trans hb hb2); have hb := ext_trans hb hb2) | (go_at_call 56; refine (HE.out _ (ext_trans (ext_alloc (Below.refl _ _) _) hb) _).mono ?_; rintro e w3 ⟨rfl, hb3⟩; have hb := ext_trans hb hb3))
                        go_ret
                        exact ⟨ret_bool (by rw [HX.out, emptyB]; simp [a1, a2]), ext_trans (ext_alloc (Below.refl _ _) _) hb⟩
                      ·
                        go_enter Tryd.func35, Tryd.ntmps35
                        go_wp2_with (first | (go_at_call 31; refine (HB.out _).mono ?_; rintro e w1 ⟨rfl, hb⟩; obtain ⟨x0, x1, x2, x3⟩ := box_cells hb) | (go_at_call 32; refine (HN.out _ (ext_trans (ext_alloc (Below.refl _ _) _) hb)).mono ?_; rintro e w2 ⟨rfl, hb2⟩; obtain ⟨y0, y1, y2, y3⟩ := box_cells (ext_trans hb hb2); have hb := ext_trans hb hb2) | (go_at_call 56; refine (HE.out _ (ext_trans (ext_alloc (Below.refl _ _) _) hb) _).mono ?_; rintro e w3 ⟨rfl, hb3⟩; have hb := ext_trans hb hb3))
                        go_ret
                        exact ⟨ret_bool (by rw [HX.out, emptyB]; simp [a1, a2]), ext_trans (ext_alloc (Below.refl _ _) _) hb⟩
              · rw [k6, k7, if_pos (by decide)] at HX
                cases a1 : (t.num == 0)
                · rw [a1] at HB
                  go_enter Tryd.func35, Tryd.ntmps35
                  go_wp2_with (first | (go_at_call 31; refine (HB.out _).mono ?_; rintro e w1 ⟨rfl, hb⟩; obtain ⟨x0, x1, x2, x3⟩ := box_cells hb) | (go_at_call 32; refine (HN.out _ (ext_trans (ext_alloc (Below.refl _ _) _) hb)).mono ?_; rintro e w2 ⟨rfl, hb2⟩; obtain ⟨y0, y1, y2, y3⟩ := box_cells (ext_trans hb hb2); have hb := ext_trans hb hb2) | (go_at_call 56; refine (HE.out _ (ext_trans (ext_alloc (Below.refl _ _) _) hb) _).mono ?_; rintro e w3 ⟨rfl, hb3⟩; have hb := ext_trans hb hb3))
                  go_ret
                  exact ⟨ret_bool (by rw [HX.out]; simp [a1]), ext_trans (ext_alloc (Below.refl _ _) _) hb⟩
                · rw [a1] at HB
                  cases a2 : t.name.toList.isEmpty
                  ·
                    go_enter Tryd.func35, Tryd.ntmps35
                    go_wp2_with (first | (go_at_call 31; refine (HB.out _).mono ?_; rintro e w1 ⟨rfl, hb⟩; obtain ⟨x0, x1, x2, x3⟩ := box_cells hb) | (go_at_call 32; refine (HN.out _ (ext_trans (ext_alloc (Below.refl _ _) _) hb)).mono ?_; rintro e w2 ⟨rfl, hb2⟩; obtain ⟨y0, y1, y2, y3⟩ := box_cells (ext_trans hb hb2); have hb := ext_trans hb hb2) | (go_at_call 56; refine (HE.out _ (ext_trans (ext_alloc (Below.refl _ _) _) hb) _).mono ?_; rintro e w3 ⟨rfl, hb3⟩; have hb := ext_trans hb hb3))
                    go_ret
                    exact ⟨ret_bool (by rw [HX.out, emptyB]; simp [a1, a2]), ext_trans (ext_alloc (Below.refl _ _) _) hb⟩
                  ·
                    go_enter Tryd.func35, Tryd.ntmps35
                    go_wp2_with (first | (go_at_call 31; refine (HB.out _).mono ?_; rintro e w1 ⟨rfl, hb⟩; obtain ⟨x0, x1, x2, x3⟩ := box_cells hb) | (go_at_call 32; refine (HN.out _ (ext_trans (ext_alloc (Below.refl _ _) _) hb)).mono ?_; rintro e w2 ⟨rfl, hb2⟩; obtain ⟨y0, y1, y2, y3⟩ := box_cells (ext_trans hb hb2); have hb := ext_trans hb hb2) | (go_at_call 56; refine (HE.out _ (ext_trans (ext_alloc (Below.refl _ _) _) hb) _).mono ?_; rintro e w3 ⟨rfl, hb3⟩; have hb := ext_trans hb hb3))
                    go_ret
                    exact ⟨ret_bool (by rw [HX.out, emptyB]; simp [a1, a2]), ext_trans (ext_alloc (Below.refl _ _) _) hb⟩
            · rw [k6, if_pos (by simp)] at HX
              cases a1 : (t.num == 0)
              · rw [a1] at HB
                go_enter Tryd.func35, Tryd.ntmps35
                go_wp2_with (first | (go_at_call 31; refine (HB.out _).mono ?_; rintro e w1 ⟨rfl, hb⟩; obtain ⟨x0, x1, x2, x3⟩ := box_cells hb) | (go_at_call 32; refine (HN.out _ (ext_trans (ext_alloc (Below.refl _ _) _) hb)).mono ?_; rintro e w2 ⟨rfl, hb2⟩; obtain ⟨y0, y1, y2, y3⟩ := box_cells (ext_trans hb hb2); have hb := ext_trans hb hb2) | (go_at_call 56; refine (HE.out _ (ext_trans (ext_alloc (Below.refl _ _) _) hb) _).mono ?_; rintro e w3 ⟨rfl, hb3⟩; have hb := ext_trans hb hb3))
                go_ret
                exact ⟨ret_bool (by rw [HX.out]; simp [a1]), ext_trans (ext_alloc (Below.refl _ _) _) hb⟩
              · rw [a1] at HB
                cases a2 : t.name.toList.isEmpty
                ·
                  go_enter Tryd.func35, Tryd.ntmps35
                  go_wp2_with (first | (go_at_call 31; refine (HB.out _).mono ?_; rintro e w1 ⟨rfl, hb⟩; obtain ⟨x0, x1, x2, x3⟩ := box_cells hb) | (go_at_call 32; refine (HN.out _ (ext_trans (ext_alloc (Below.refl _ _) _) hb)).mono ?_; rintro e w2 ⟨rfl, hb2⟩; obtain ⟨y0, y1, y2, y3⟩ := box_cells (ext_trans hb hb2); have hb := ext_trans hb hb2) | (go_at_call 56; refine (HE.out _ (ext_trans (ext_alloc (Below.refl _ _) _) hb) _).mono ?_; rintro e w3 ⟨rfl, hb3⟩; have hb := ext_trans hb hb3))
                  go_ret
                  exact ⟨ret_bool (by rw [HX.out, emptyB]; simp [a1, a2]), ext_trans (ext_alloc (Below.refl _ _) _) hb⟩
                ·
                  go_enter Tryd.func35, Tryd.ntmps35
                  go_wp2_with (first | (go_at_call 31; refine (HB.out _).mono ?_; rintro e w1 ⟨rfl, hb⟩; obtain ⟨x0, x1, x2, x3⟩ := box_cells hb) | (go_at_call 32; refine (HN.out _ (ext_trans (ext_alloc (Below.refl _ _) _) hb)).mono ?_; rintro e w2 ⟨rfl, hb2⟩; obtain ⟨y0, y1, y2, y3⟩ := box_cells (ext_trans hb hb2); have hb := ext_trans hb hb2) | (go_at_call 56; refine (HE.out _ (ext_trans (ext_alloc (Below.refl _ _) _) hb) _).mono ?_; rintro e w3 ⟨rfl, hb3⟩; have hb := ext_trans hb hb3))
                  go_ret
                  exact ⟨ret_bool (by rw [HX.out, emptyB]; simp [a1, a2]), ext_trans (ext_alloc (Below.refl _ _) _) hb⟩
          · rw [k3, if_pos rfl] at HX
            cases a1 : (t.num == 0)
            · rw [a1] at HB
              go_enter Tryd.func35, Tryd.ntmps35
              go_wp2_with (first | (go_at_call 31; refine (HB.out _).mono ?_; rintro e w1 ⟨rfl, hb⟩; obtain ⟨x0, x1, x2, x3⟩ := box_cells hb) | (go_at_call 32; refine (HN.out _ (ext_trans (ext_alloc (Below.refl _ _) _) hb)).mono ?_; rintro e w2 ⟨rfl, hb2⟩; obtain ⟨y0, y1, y2, y3⟩ := box_cells (ext_trans hb hb2); have hb := ext_trans hb hb2) | (go_at_call 56; refine (HE.out _ (ext_trans (ext_alloc (Below.refl _ _) _) hb) _).mono ?_; rintro e w3 ⟨rfl, hb3⟩; have hb := ext_trans hb hb3))
              go_ret
              exact ⟨ret_bool (by rw [HX.out]; simp [a1]), ext_trans (ext_alloc (Below.refl _ _) _) hb⟩
            · rw [a1] at HB
              cases a2 : nameB t.name
              · rw [a2] at HN
                go_enter Tryd.func35, Tryd.ntmps35
                go_wp2_with (first | (go_at_call 31; refine (HB.out _).mono ?_; rintro e w1 ⟨rfl, hb⟩; obtain ⟨x0, x1, x2, x3⟩ := box_cells hb) | (go_at_call 32; refine (HN.out _ (ext_trans (ext_alloc (Below.refl _ _) _) hb)).mono ?_; rintro e w2 ⟨rfl, hb2⟩; obtain ⟨y0, y1, y2, y3⟩ := box_cells (ext_trans hb hb2); have hb := ext_trans hb hb2) | (go_at_call 56; refine (HE.out _ (ext_trans (ext_alloc (Below.refl _ _) _) hb) _).mono ?_; rintro e w3 ⟨rfl, hb3⟩; have hb := ext_trans hb hb3))
                go_ret
                exact ⟨ret_bool (by rw [HX.out]; simp [a1, a2]), ext_trans (ext_alloc (Below.refl _ _) _) hb⟩
              · rw [a2] at HN
                go_enter Tryd.func35, Tryd.ntmps35
                go_wp2_with (first | (go_at_call 31; refine (HB.out _).mono ?_; rintro e w1 ⟨rfl, hb⟩; obtain ⟨x0, x1, x2, x3⟩ := box_cells hb) | (go_at_call 32; refine (HN.out _ (ext_trans (ext_alloc (Below.refl _ _) _) hb)).mono ?_; rintro e w2 ⟨rfl, hb2⟩; obtain ⟨y0, y1, y2, y3⟩ := box_cells (ext_trans hb hb2); have hb := ext_trans hb hb2) | (go_at_call 56; refine (HE.out _ (ext_trans (ext_alloc (Below.refl _ _) _) hb) _).mono ?_; rintro e w3 ⟨rfl, hb3⟩; have hb := ext_trans hb hb3))
                go_ret
                exact ⟨ret_bool (by rw [HX.out]; simp [a1, a2]), ext_trans (ext_alloc (Below.refl _ _) _) hb⟩
        · rw [k2, k4, k5, if_pos (by decide)] at HX
          cases a1 : (t.num == 0)
          · rw [a1] at HB
            go_enter Tryd.func35, Tryd.ntmps35
            go_wp2_with (first | (go_at_call 31; refine (HB.out _).mono ?_; rintro e w1 ⟨rfl, hb⟩; obtain ⟨x0, x1, x2, x3⟩ := box_cells hb) | (go_at_call 32; refine (HN.out _ (ext_trans (ext_alloc (Below.refl _ _) _) hb)).mono ?_; rintro e w2 ⟨rfl, hb2⟩; obtain ⟨y0, y1, y2, y3⟩ := box_cells (ext_trans hb hb2); have hb := ext_trans hb hb2) | (go_at_call 56; refine (HE.out _ (ext_trans (ext_alloc (Below.refl _ _) _) hb) _).mono ?_; rintro e w3 ⟨rfl, hb3⟩; have hb := ext_trans hb hb3))
            go_ret
            exact ⟨ret_bool (by rw [HX.out]; simp [a1]), ext_trans (ext_alloc (Below.refl _ _) _) hb⟩
          · rw [a1] at HB
            cases a2 : nameB t.name
            · rw [a2] at HN
              go_enter Tryd.func35, Tryd.ntmps35
              go_wp2_with (first | (go_at_call 31; refine (HB.out _).mono ?_; rintro e w1 ⟨rfl, hb⟩; obtain ⟨x0, x1, x2, x3⟩ := box_cells hb) | (go_at_call 32; refine (HN.out _ (ext_trans (ext_alloc (Below.refl _ _) _) hb)).mono ?_; rintro e w2 ⟨rfl, hb2⟩; obtain ⟨y0, y1, y2, y3⟩ := box_cells (ext_trans hb hb2); have hb := ext_trans hb hb2) | (go_at_call 56; refine (HE.out _ (ext_trans (ext_alloc (Below.refl _ _) _) hb) _).mono ?_; rintro e w3 ⟨rfl, hb3⟩; have hb := ext_trans hb hb3))
              go_ret
              exact ⟨ret_bool (by rw [HX.out]; simp [a1, a2]), ext_trans (ext_alloc (Below.refl _ _) _) hb⟩
            · rw [a2] at HN
              go_enter Tryd.func35, Tryd.ntmps35
              go_wp2_with (first | (go_at_call 31; refine (HB.out _).mono ?_; rintro e w1 ⟨rfl, hb⟩; obtain ⟨x0, x1, x2, x3⟩ := box_cells hb) | (go_at_call 32; refine (HN.out _ (ext_trans (ext_alloc (Below.refl _ _) _) hb)).mono ?_; rintro e w2 ⟨rfl, hb2⟩; obtain ⟨y0, y1, y2, y3⟩ := box_cells (ext_trans hb hb2); have hb := ext_trans hb hb2) | (go_at_call 56; refine (HE.out _ (ext_trans (ext_alloc (Below.refl _ _) _) hb) _).mono ?_; rintro e w3 ⟨rfl, hb3⟩; have hb := ext_trans hb hb3))
              go_ret
              exact ⟨ret_bool (by rw [HX.out, ← len_zero_beq]; simp [a1, a2]), ext_trans (ext_alloc (Below.refl _ _) _) hb⟩
      · rw [k2, k4, if_pos (by simp)] at HX
        cases a1 : (t.num == 0)
        · rw [a1] at HB
          go_enter Tryd.func35, Tryd.ntmps35
          go_wp2_with (first | (go_at_call 31; refine (HB.out _).mono ?_; rintro e w1 ⟨rfl, hb⟩; obtain ⟨x0, x1, x2, x3⟩ := box_cells hb) | (go_at_call 32; refine (HN.out _ (ext_trans (ext_alloc (Below.refl _ _) _) hb)).mono ?_; rintro e w2 ⟨rfl, hb2⟩; obtain ⟨y0, y1, y2, y3⟩ := box_cells (ext_trans hb hb2); have hb := ext_trans hb hb2) | (go_at_call 56; refine (HE.out _ (ext_trans (ext_alloc (Below.refl _ _) _) hb) _).mono ?_; rintro e w3 ⟨rfl, hb3⟩; have hb := ext_trans hb hb3))
          go_ret
          exact ⟨ret_bool (by rw [HX.out]; simp [a1]), ext_trans (ext_alloc (Below.refl _ _) _) hb⟩
        · rw [a1] at HB
          cases a2 : nameB t.name
          · rw [a2] at HN
            go_enter Tryd.func35, Tryd.ntmps35
            go_wp2_with (first | (go_at_call 31; refine (HB.out _).mono ?_; rintro e w1 ⟨rfl, hb⟩; obtain ⟨x0, x1, x2, x3⟩ := box_cells hb) | (go_at_call 32; refine (HN.out _ (ext_trans (ext_alloc (Below.refl _ _) _) hb)).mono ?_; rintro e w2 ⟨rfl, hb2⟩; obtain ⟨y0, y1, y2, y3⟩ := box_cells (ext_trans hb hb2); have hb := ext_trans hb hb2) | (go_at_call 56; refine (HE.out _ (ext_trans (ext_alloc (Below.refl _ _) _) hb) _).mono ?_; rintro e w3 ⟨rfl, hb3⟩; have hb := ext_trans hb hb3))
            go_ret
            exact ⟨ret_bool (by rw [HX.out]; simp [a1, a2]), ext_trans (ext_alloc (Below.refl _ _) _) hb⟩
          · rw [a2] at HN
            go_enter Tryd.func35, Tryd.ntmps35
            go_wp2_with (first | (go_at_call 31; refine (HB.out _).mono ?_; rintro e w1 ⟨rfl, hb⟩; obtain ⟨x0, x1, x2, x3⟩ := box_cells hb) | (go_at_call 32; refine (HN.out _ (ext_trans (ext_alloc (Below.refl _ _) _) hb)).mono ?_; rintro e w2 ⟨rfl, hb2⟩; obtain ⟨y0, y1, y2, y3⟩ := box_cells (ext_trans hb hb2); have hb := ext_trans hb hb2) | (go_at_call 56; refine (HE.out _ (ext_trans (ext_alloc (Below.refl _ _) _) hb) _).mono ?_; rintro e w3 ⟨rfl, hb3⟩; have hb := ext_trans hb hb3))
            go_ret
            exact ⟨ret_bool (by rw [HX.out, ← len_zero_beq]; simp [a1, a2]), ext_trans (ext_alloc (Below.refl _ _) _) hb⟩
    · rw [k2, if_pos (by simp)] at HX
      cases a1 : (t.num == 0)
      · rw [a1] at HB
        go_enter Tryd.func35, Tryd.ntmps35
        go_wp2_with (first | (go_at_call 31; refine (HB.out _).mono ?_; rintro e w1 ⟨rfl, hb⟩; obtain ⟨x0, x1, x2, x3⟩ := box_cells hb) | (go_at_call 32; refine (HN.out _ (ext_trans (ext_alloc (Below.refl _ _) _) hb)).mono ?_; rintro e w2 ⟨rfl, hb2⟩; obtain ⟨y0, y1, y2, y3⟩ := box_cells (ext_trans hb hb2); have hb := ext_trans hb hb2) | (go_at_call 56; refine (HE.out _ (ext_trans (ext_alloc (Below.refl _ _) _) hb) _).mono ?_; rintro e w3 ⟨rfl, hb3⟩; have hb := ext_trans hb hb3))
        go_ret
        exact ⟨ret_bool (by rw [HX.out]; simp [a1]), ext_trans (ext_alloc (Below.refl _ _) _) hb⟩
      · rw [a1] at HB
        cases a2 : nameB t.name
        · rw [a2] at HN
          go_enter Tryd.func35, Tryd.ntmps35
          go_wp2_with (first | (go_at_call 31; refine (HB.out _).mono ?_; rintro e w1 ⟨rfl, hb⟩; obtain ⟨x0, x1, x2, x3⟩ := box_cells hb) | (go_at_call 32; refine (HN.out _ (ext_trans (ext_alloc (Below.refl _ _) _) hb)).mono ?_; rintro e w2 ⟨rfl, hb2⟩; obtain ⟨y0, y1, y2, y3⟩ := box_cells (ext_trans hb hb2); have hb := ext_trans hb hb2) | (go_at_call 56; refine (HE.out _ (ext_trans (ext_alloc (Below.refl _ _) _) hb) _).mono ?_; rintro e w3 ⟨rfl, hb3⟩; have hb := ext_trans hb hb3))
          go_ret
          exact ⟨ret_bool (by rw [HX.out]; simp [a1, a2]), ext_trans (ext_alloc (Below.refl _ _) _) hb⟩
        · rw [a2] at HN
          go_enter Tryd.func35, Tryd.ntmps35
          go_wp2_with (first | (go_at_call 31; refine (HB.out _).mono ?_; rintro e w1 ⟨rfl, hb⟩; obtain ⟨x0, x1, x2, x3⟩ := box_cells hb) | (go_at_call 32; refine (HN.out _ (ext_trans (ext_alloc (Below.refl _ _) _) hb)).mono ?_; rintro e w2 ⟨rfl, hb2⟩; obtain ⟨y0, y1, y2, y3⟩ := box_cells (ext_trans hb hb2); have hb := ext_trans hb hb2) | (go_at_call 56; refine (HE.out _ (ext_trans (ext_alloc (Below.refl _ _) _) hb) _).mono ?_; rintro e w3 ⟨rfl, hb3⟩; have hb := ext_trans hb hb3))
          go_ret
          exact ⟨ret_bool (by rw [HX.out, ← len_zero_beq]; simp [a1, a2]), ext_trans (ext_alloc (Below.refl _ _) _) hb⟩
  · rw [k1, if_pos rfl] at HX
    cases a1 : decide (0 ≤ t.num)
    · rw [a1, Bool.false_and] at HX
      go_enter Tryd.func35, Tryd.ntmps35
      go_wp2_with fail
      go_ret
      exact ⟨ret_bool HX.out.symm, ext_alloc (Below.refl _ _) _⟩
    · cases a2 : t.name.toList.isEmpty
      · go_enter Tryd.func35, Tryd.ntmps35
        go_wp2_with fail
        go_ret
        exact ⟨ret_bool (by rw [HX.out, emptyB, a1, a2]; rfl), ext_alloc (Below.refl _ _) _⟩
      · go_enter Tryd.func35, Tryd.ntmps35
        go_wp2_with fail
        go_ret
        exact ⟨ret_bool (by rw [HX.out, emptyB, a1, a2, ← len_zero_beq]; rfl), ext_alloc (Below.refl _ _) _⟩
end Go.Proofs.YtgjanglonccclaaDoor

/- Contracts of ast.IsPlace and ast.shape. -/
namespace Go.Proofs.YtgjanglonccclaaDoor
open Go.RowKit
set_option linter.unusedVariables false
set_option linter.unusedSimpArgs false

theorem isPlace_any (t : Node) (A : Option Addr) (c : Nat) (w : World) (ok : Nat → Prop) (hw : Good w) (h : t.In w ok A c) :
    Calls Tryd.prog 34 #[.agg #[.int .u8 t.kind, .int .i64 t.num, .string t.name, .slice A t.kids.length c]] w fun e w' => e = .returned (.bool t.isPlace) ∧ Below w.heap.size w w' := by
  have HE := Hd.mk (fun W hb => isExpr_any t A c W ok (hw.below (w' := W) hb) (h.below hb))
  have HX := Hd.mk (show t.isPlace = ((t.kind == 2 || t.kind == 3) && t.isExpr) from rfl)
  clear hw h
  cases k2 : (t.kind == 2)
  · cases k3 : (t.kind == 3)
    · go_enter Tryd.func34, Tryd.ntmps34
      go_wp2_with fail
      go_ret
      exact ⟨ret_bool (by rw [HX.out, k2, k3]; rfl), ext_alloc (Below.refl _ _) _⟩
    · go_enter Tryd.func34, Tryd.ntmps34
      go_wp2_with (go_at_call 35; refine (HE.out _ (ext_alloc (Below.refl _ _) _)).mono ?_; rintro e w1 ⟨rfl, hb⟩)
      go_ret
      exact ⟨ret_bool (by rw [HX.out, k2, k3]; simp), ext_trans (ext_alloc (Below.refl _ _) _) hb⟩
  · go_enter Tryd.func34, Tryd.ntmps34
    go_wp2_with (go_at_call 35; refine (HE.out _ (ext_alloc (Below.refl _ _) _)).mono ?_; rintro e w1 ⟨rfl, hb⟩)
    go_ret
    exact ⟨ret_bool (by rw [HX.out, k2]; simp), ext_trans (ext_alloc (Below.refl _ _) _) hb⟩

theorem goes_IsPlace : Goes 34 := goes_of Tryd.func34 (by kernel_rfl) rfl
theorem goes_IsExpr : Goes 35 := goes_of Tryd.func35 (by kernel_rfl) rfl
theorem goes_IsBlock : Goes 15 := goes_of Tryd.func15 (by kernel_rfl) rfl

theorem shapeB_len {ks : List Node} {ps : List (Node → Bool)} (h : ¬ ks.length = ps.length) : shapeB ks ps = false := by simp [shapeB, h]
theorem shapeB_hit {ks : List Node} {ps : List (Node → Bool)} {j : Nat} (h1 : j < ks.length) (h2 : j < ps.length) (h : ps[j] ks[j] = false) : shapeB ks ps = false := by
  unfold shapeB
  rw [Bool.and_eq_false_iff]
  right
  rw [List.all_eq_false]
  exact ⟨(ks[j], ps[j]), by rw [List.mem_iff_getElem]; exact ⟨j, by simp; omega, by simp⟩, by simp [h]⟩
theorem shapeB_all {ks : List Node} {ps : List (Node → Bool)} (hl : ks.length = ps.length) (h : ∀ j (h1 : j < ks.length) (h2 : j < ps.length), ps[j] ks[j] = true) : shapeB ks ps = true := by
  unfold shapeB
  rw [hl]
  simp only [beq_self_eq_true, Bool.true_and]
  rw [List.all_eq_true]
  intro x hx
  obtain ⟨j, hj, rfl⟩ := List.getElem_of_mem hx
  have hj2 := hj
  rw [List.length_zip] at hj2
  simp only [List.getElem_zip]
  exact h j (by omega) (by omega)

theorem shape_any (t : Node) (A : Option Addr) (c : Nat) (w : World) (ok : Nat → Prop) (h : t.In w ok A c) (fs : List FuncId) (ps : List (Node → Bool)) (m : Nat) (hm : fs.length = m) (hp' : ps.length = m) (hm1 : m ≤ 100) (bt : Nat)
    (hc : ∀ j (hj : j < fs.length), w.cell? ⟨bt, j, none⟩ = some (.func (.func fs[j]) #[] #[])) (hbt : bt < w.heap.size) (hg : ∀ f ∈ fs, Goes f)
    (hp : ∀ j (h1 : j < fs.length) (h2 : j < ps.length), ∀ k ∈ t.kids, Tests fs[j] #[] ps[j] w ok k) :
    Calls Tryd.prog 33 #[.agg #[.int .u8 t.kind, .int .i64 t.num, .string t.name, .slice A t.kids.length c], .slice (some ⟨bt, 0, none⟩) m m] w fun e w' => e = .returned (.bool (shapeB t.kids ps)) ∧ Below w.heap.size w w' := by
  subst hm
  have H := Hd.mk h
  have HC := Hd.mk hc
  have HG := Hd.mk hg
  have HP := Hd.mk hp
  have HL := Hd.mk hp'
  have hl := h.lenZ
  have hm2 : (fs.length : Int) ≤ 100 := by omega
  clear h hc hg hp hp' hm1
  cases hlen : ((t.kids.length : Int) != (fs.length : Int))
  · have HE := Hd.mk (show t.kids.length = fs.length by simp at hlen; omega)
    go_enter Tryd.func33, Tryd.ntmps33
    go_wp2_with fail
    go_loopw [5, 6, 15] (fun v5 v6 v15 W => ∃ j : Nat, j ≤ fs.length ∧ v15 = .int .i64 j ∧ Hd (∀ i (h1 : i < t.kids.length) (h2 : i < ps.length), i < j → ps[i] t.kids[i] = true) ∧ Below (w.alloc (.cells #[.int .u8 t.kind, .int .i64 t.num, .string t.name, .slice A t.kids.length c] 24)).heap.size (w.alloc (.cells #[.int .u8 t.kind, .int .i64 t.num, .string t.name, .slice A t.kids.length c] 24)) W) (fun _ _ v15 _ => fs.length - (intOf v15).toNat)
    case atStart => exact ⟨0, Nat.zero_le _, rfl, ⟨fun i _ _ h => by omega⟩, Below.refl _ _⟩
    case round =>
      obtain ⟨j, hj, rfl, HS, HB⟩ := hrel
      by_cases hlt : j < fs.length
      · have hlt1 : j < t.kids.length := by have := HE.out; omega
        have hlt2 : j < ps.length := by have := HL.out; omega
        have HB' := ext_trans (ext_alloc (Below.refl w.heap.size w) _) HB
        obtain ⟨b, o, A1, c1, rfl, e0, e1, e2, e3, h4⟩ := (H.out.below HB').at_ j hlt1
        obtain ⟨x0, x1, x2, x3⟩ := box_cells HB
        have hcell : wr.cell? ⟨bt, j, none⟩ = some (.func (.func fs[j]) #[] #[]) := (HB'.cell (p := ⟨bt, j, none⟩) hbt).trans (HC.out j hlt)
        have hgo : ∀ (args : Array Value) (w : World), (callFunc fs[j] args).run Tryd.prog w = .ok (.enter fs[j] args) w := HG.out _ (List.getElem_mem _)
        have HT := Hd.mk (HP.out j hlt hlt2 t.kids[j] (List.getElem_mem _) wr A1 c1 _ HB' h4 rfl)
        cases hpj : ps[j] t.kids[j]
        · rw [hpj] at HT
          have HF := Hd.mk (shapeB_hit hlt1 hlt2 hpj).symm
          clear hpj HB' h4
          go_wp2_with (refine (HT.out).mono ?_; rintro e w1 ⟨rfl, hb⟩)
          go_ret
          exact ⟨ret_bool HF.out, ext_trans (ext_trans (ext_alloc (Below.refl _ _) _) HB) hb⟩
        · rw [hpj] at HT
          have HF := Hd.mk hpj
          clear hpj HB' h4
          go_wp2_with (refine (HT.out).mono ?_; rintro e w1 ⟨rfl, hb⟩)
          go_roundw
          case rel =>
            refine ⟨j + 1, hlt, by go_num, ⟨fun i h1 h2 h3 => ?_⟩, ext_trans HB hb⟩
            rcases Nat.lt_or_ge i j with h | h
            · exact HS.out i h1 h2 h
            · obtain rfl : i = j := by omega
              exact HF.out
          case measure => simp [intOf]; omega
      · have : j = fs.length := by omega
        subst this
        go_wp2_with fail
        go_ret
        exact ⟨ret_bool (shapeB_all (by rw [HE.out, HL.out]) (fun i h1 h2 => HS.out i h1 h2 (by have := HE.out; omega))).symm, ext_trans (ext_alloc (Below.refl _ _) _) HB⟩
  · have HF := Hd.mk (shapeB_len (ks := t.kids) (ps := ps) (by rw [HL.out]; simp at hlen; omega)).symm
    go_enter Tryd.func33, Tryd.ntmps33
    go_wp2_with fail
    go_ret
    exact ⟨ret_bool HF.out, ext_alloc (Below.refl _ _) _⟩
end Go.Proofs.YtgjanglonccclaaDoor

/- Contracts of ast.IsStmt and ast.IsBlock. -/
namespace Go.Proofs.YtgjanglonccclaaDoor
open Go.RowKit
set_option linter.unusedVariables false
set_option linter.unusedSimpArgs false

def StmtRuns (t : Node) : Prop := ∀ (A : Option Addr) (c : Nat) (w : World) (ok : Nat → Prop), Good w → t.In w ok A c →
  Calls Tryd.prog 12 #[.agg #[.int .u8 t.kind, .int .i64 t.num, .string t.name, .slice A t.kids.length c]] w fun e w' => e = .returned (.bool t.isStmt) ∧ Below w.heap.size w w'
def BlockRuns (t : Node) : Prop := ∀ (A : Option Addr) (c : Nat) (w : World) (ok : Nat → Prop), Good w → t.In w ok A c →
  Calls Tryd.prog 15 #[.agg #[.int .u8 t.kind, .int .i64 t.num, .string t.name, .slice A t.kids.length c]] w fun e w' => e = .returned (.bool t.isBlock) ∧ Below w.heap.size w w'

theorem goes_stmt1 : Goes 37 := goes_of Tryd.func37 (by kernel_rfl) rfl
theorem goes_block1 : Goes 40 := goes_of Tryd.func40 (by kernel_rfl) rfl
theorem stmt1_any (t : Node) (A : Option Addr) (c : Nat) (w : World) (ok : Nat → Prop) (hw : Good w) (h : t.In w ok A c) :
    Calls Tryd.prog 37 #[.agg #[.int .u8 t.kind, .int .i64 t.num, .string t.name, .slice A t.kids.length c]] w fun e w' => e = .returned (.bool !t.isVar) ∧ Below w.heap.size w w' := by
  have HE := Hd.mk (fun W hb => isExpr_any t A c W ok (hw.below (w' := W) hb) (h.below hb))
  have HX := Hd.mk (show t.isVar = (t.kind == 2 && t.isExpr) from rfl)
  clear hw h
  cases k2 : (t.kind == 2)
  · have k3 : (t.kind != 2) = true := by simp [bne, k2]
    go_enter Tryd.func37, Tryd.ntmps37
    go_wp2_with fail
    go_ret
    exact ⟨ret_bool (by rw [HX.out, k2]; rfl), ext_alloc (Below.refl _ _) _⟩
  · have k3 : (t.kind != 2) = false := by simp [bne, k2]
    go_enter Tryd.func37, Tryd.ntmps37
    go_wp2_with (go_at_call 35; refine (HE.out _ (ext_alloc (Below.refl _ _) _)).mono ?_; rintro e w1 ⟨rfl, hb⟩)
    go_ret
    exact ⟨ret_bool (by rw [HX.out, k2]; simp), ext_trans (ext_alloc (Below.refl _ _) _) hb⟩
theorem block1_any (t : Node) (ht : StmtRuns t) (A : Option Addr) (c : Nat) (w : World) (ok : Nat → Prop) (hw : Good w) (h : t.In w ok A c) :
    Calls Tryd.prog 40 #[.agg #[.int .u8 t.kind, .int .i64 t.num, .string t.name, .slice A t.kids.length c]] w fun e w' => e = .returned (.bool !t.isStmt) ∧ Below w.heap.size w w' := by
  have HT := Hd.mk (fun W hb => ht A c W ok (hw.below hb) (h.below hb))
  clear hw h ht
  go_enter Tryd.func40, Tryd.ntmps40
  go_wp2_with (go_at_call 12; refine (HT.out _ (ext_alloc (Below.refl _ _) _)).mono ?_; rintro e w1 ⟨rfl, hb⟩)
  go_ret
  exact ⟨rfl, ext_trans (ext_alloc (Below.refl _ _) _) hb⟩

theorem isBlock_step (t : Node) (ih : ∀ k ∈ t.kids, StmtRuns k) : BlockRuns t := by
  intro A c w ok hw h
  have HB := Hd.mk (bare_any t A c)
  have HC := Hd.mk (fun W hb => contains_any t A c W ok (h.below (w' := W) hb) _ goes_block1 (fun k => !k.isStmt) (fun k hk W1 A1 c1 args hb1 hin ha => by subst ha; exact block1_any k (ih k hk) A1 c1 W1 ok (hw.below (ext_trans hb hb1)) hin))
  have hl := h.lenZ
  have HX := Hd.mk t.isBlock_eq
  have HA := Hd.mk (show (!t.kids.any fun k => !k.isStmt) = t.kids.all Node.isStmt by rw [List.not_any_eq_all_not]; simp)
  clear hw h ih
  cases a0 : (t.kind == 57)
  · go_enter Tryd.func15, Tryd.ntmps15
    go_wp2_with fail
    go_ret
    exact ⟨ret_bool (by rw [HX.out, a0]; rfl), ext_alloc (Below.refl _ _) _⟩
  · cases a1 : (t.num == 0)
    · rw [a1] at HB
      go_enter Tryd.func15, Tryd.ntmps15
      go_wp2_with (go_at_call 31; refine (HB.out _).mono ?_; rintro e w1 ⟨rfl, hb⟩; obtain ⟨x0, x1, x2, x3⟩ := box_cells hb)
      go_ret
      exact ⟨ret_bool (by rw [HX.out]; simp [a0, a1]), ext_trans (ext_alloc (Below.refl _ _) _) hb⟩
    · rw [a1] at HB
      cases a2 : t.name.toList.isEmpty
      · go_enter Tryd.func15, Tryd.ntmps15
        go_wp2_with (go_at_call 31; refine (HB.out _).mono ?_; rintro e w1 ⟨rfl, hb⟩; obtain ⟨x0, x1, x2, x3⟩ := box_cells hb)
        go_ret
        exact ⟨ret_bool (by rw [HX.out]; simp [emptyB, a0, a1, a2]), ext_trans (ext_alloc (Below.refl _ _) _) hb⟩
      · go_enter Tryd.func15, Tryd.ntmps15
        go_wp2_with (first | (go_at_call 31; refine (HB.out _).mono ?_; rintro e w1 ⟨rfl, hb⟩; obtain ⟨x0, x1, x2, x3⟩ := box_cells hb) | (go_at_call 36; refine (HC.out _ (ext_trans (ext_alloc (Below.refl _ _) _) hb)).mono ?_; rintro e w2 ⟨rfl, hb2⟩; have hb := ext_trans hb hb2))
        go_ret
        exact ⟨ret_bool (by rw [HX.out, ← HA.out]; simp [emptyB, a0, a1, a2]), ext_trans (ext_alloc (Below.refl _ _) _) hb⟩

def KindOf (k : Int) : Prop := (k = 40 ∨ k = 41 ∨ k = 42 ∨ k = 56) ∨ k = 43 ∨ (k = 46 ∨ k = 47 ∨ k = 48 ∨ k = 49) ∨ (k = 52 ∨ k = 53) ∨ (k = 44 ∨ k = 45) ∨ (k = 50 ∨ k = 51) ∨ k = 54 ∨ k = 55
theorem fcells (w : World) (vs : List Value) (T : TypeId) : ∀ j (hj : j < vs.length), (w.alloc (.cells vs.toArray T)).cell? ⟨w.heap.size, j, none⟩ = some vs[j] := by
  intro j hj
  rw [cell_blk (Go.MapKept.heap_alloc w _).1]
  simp [hj]

set_option maxHeartbeats 16000000 in
theorem isStmt_step (t : Node) (ih : ∀ k ∈ t.kids, BlockRuns k) : StmtRuns t := by
  obtain ⟨k, n, s, ks⟩ := t
  intro A c w ok hw h
  have HB := Hd.mk (bare_any ⟨k, n, s, ks⟩ A c)
  have HN := Hd.mk (fun W hb => name_any s h.fits.name W (hw.below (w' := W) hb))
  have hl := h.lenZ
  have HX := Hd.mk (Node.isStmt_eq ⟨k, n, s, ks⟩)
  have HC := Hd.mk (fun W hb => contains_any ⟨k, n, s, ks⟩ A c W ok (h.below (w' := W) hb) _ goes_stmt1 (fun k => !k.isVar) (fun k hk W1 A1 c1 args hb1 hin ha => by subst ha; exact stmt1_any k A1 c1 W1 ok (hw.below (ext_trans hb hb1)) hin))
  have HA := Hd.mk (show (!ks.any fun k => !k.isVar) = ks.all Node.isVar by rw [List.not_any_eq_all_not]; simp)
  have TP : ∀ W, Below w.heap.size w W → ∀ k ∈ ks, Tests 34 #[] Node.isPlace W ok k := fun W hb k hk W1 A1 c1 args hb1 hin ha => by subst ha; exact isPlace_any k A1 c1 W1 ok (hw.below (ext_trans hb hb1)) hin
  have TE : ∀ W, Below w.heap.size w W → ∀ k ∈ ks, Tests 35 #[] Node.isExpr W ok k := fun W hb k hk W1 A1 c1 args hb1 hin ha => by subst ha; exact isExpr_any k A1 c1 W1 ok (hw.below (ext_trans hb hb1)) hin
  have TB : ∀ W, Below w.heap.size w W → ∀ k ∈ ks, Tests 15 #[] Node.isBlock W ok k := fun W hb k hk W1 A1 c1 args hb1 hin ha => by subst ha; exact ih k hk A1 c1 W1 ok (hw.below (ext_trans hb hb1)) hin
  have SH : ∀ (W : World), Below w.heap.size w W → ∀ (fs : List FuncId) (ps : List (Node → Bool)) (m : Nat), fs.length = m → ps.length = m → m ≤ 100 → (∀ f ∈ fs, Goes f) →
      (∀ j (h1 : j < fs.length) (h2 : j < ps.length), ∀ (W1 : World), Below w.heap.size w W1 → ∀ k ∈ ks, Tests fs[j] #[] ps[j] W1 ok k) →
      Calls Tryd.prog 33 #[.agg #[.int .u8 k, .int .i64 n, .string s, .slice A ks.length c], .slice (some ⟨W.heap.size, 0, none⟩) m m] (W.alloc (.cells (fs.map fun f => Value.func (.func f) #[] #[]).toArray 27)) fun e w' => e = .returned (.bool (shapeB ks ps)) ∧ Below W.heap.size W w' := by
    intro W hb fs ps m h1 h2 h3 h4 h5
    refine (shape_any ⟨k, n, s, ks⟩ A c _ ok (h.below (ext_alloc hb _)) fs ps m h1 h2 h3 W.heap.size ?_ (by simp) h4 (fun j g1 g2 => h5 j g1 g2 _ (ext_alloc hb _))).mono ?_
    · intro j hj
      have := fcells W (fs.map fun f => Value.func (.func f) #[] #[]) 27 j (by simpa using hj)
      rw [this]; simp
    · rintro e w' ⟨rfl, hb1⟩
      exact ⟨rfl, ext_trans (ext_alloc (Below.refl _ _) _) hb1⟩
  have GP := goes_IsPlace
  have GE := goes_IsExpr
  have GB := goes_IsBlock
  have S1 := Hd.mk (fun W hb => SH W hb [34, 35] [Node.isPlace, Node.isExpr] 2 rfl rfl (by omega) (by simp [GP, GE]) (fun j h1 h2 => by
    have : j = 0 ∨ j = 1 := by simp at h1; omega
    rcases this with rfl | rfl
    · exact TP
    · exact TE))
  have S2 := Hd.mk (fun W hb => SH W hb [34, 34] [Node.isPlace, Node.isPlace] 2 rfl rfl (by omega) (by simp [GP]) (fun j h1 h2 => by
    have : j = 0 ∨ j = 1 := by simp at h1; omega
    rcases this with rfl | rfl
    · exact TP
    · exact TP))
  have S3 := Hd.mk (fun W hb => SH W hb [34] [Node.isPlace] 1 rfl rfl (by omega) (by simp [GP]) (fun j h1 h2 => by
    obtain rfl : j = 0 := by simp at h1; omega
    exact TP))
  have S4 := Hd.mk (fun W hb => SH W hb [35, 15, 15, 35] [Node.isExpr, Node.isBlock, Node.isBlock, Node.isExpr] 4 rfl rfl (by omega) (by simp [GB, GE]) (fun j h1 h2 => by
    have : j = 0 ∨ j = 1 ∨ j = 2 ∨ j = 3 := by simp at h1; omega
    rcases this with rfl | rfl | rfl | rfl
    · exact TE
    · exact TB
    · exact TB
    · exact TE))
  have S5 := Hd.mk (fun W hb => SH W hb [35, 15, 35] [Node.isExpr, Node.isBlock, Node.isExpr] 3 rfl rfl (by omega) (by simp [GB, GE]) (fun j h1 h2 => by
    have : j = 0 ∨ j = 1 ∨ j = 2 := by simp at h1; omega
    rcases this with rfl | rfl | rfl
    · exact TE
    · exact TB
    · exact TE))
  have S6 := Hd.mk (fun W hb => SH W hb [15] [Node.isBlock] 1 rfl rfl (by omega) (by simp [GB]) (fun j h1 h2 => by
    obtain rfl : j = 0 := by simp at h1; omega
    exact TB))
  clear hw h ih TP TE TB SH GP GE GB
  dsimp only at HB HX HC hl ⊢
  cases a1 : (n == 0)
  · rw [a1] at HB
    go_enter Tryd.func12, Tryd.ntmps12
    go_wp2_with (go_at_call 31; refine (HB.out _).mono ?_; rintro e w1 ⟨rfl, hb⟩; obtain ⟨x0, x1, x2, x3⟩ := box_cells hb)
    go_ret
    exact ⟨ret_bool (by rw [HX.out]; simp [a1]), ext_trans (ext_alloc (Below.refl _ _) _) hb⟩
  · rw [a1] at HB
    by_cases hk : KindOf k
    · rcases hk with hk | hk | hk | hk | hk | hk | hk | hk
      · rcases hk with rfl | rfl | rfl | rfl
        all_goals
          cases a2 : s.toList.isEmpty
          all_goals
            go_enter Tryd.func12, Tryd.ntmps12
            go_wp2_with (first | (go_at_call 31; refine (HB.out _).mono ?_; rintro e w1 ⟨rfl, hb⟩; obtain ⟨x0, x1, x2, x3⟩ := box_cells hb) | (go_at_call 32; refine (HN.out _ (ext_trans (ext_alloc (Below.refl _ _) _) hb)).mono ?_; rintro e w2 ⟨rfl, hb2⟩; obtain ⟨y0, y1, y2, y3⟩ := box_cells (ext_trans hb hb2); have hb := ext_trans hb hb2) | (go_at_call 33; refine (S1.out _ (ext_trans (ext_alloc (Below.refl _ _) _) hb)).mono ?_; rintro e w3 ⟨rfl, hb3⟩; have hb := ext_trans hb hb3))
            go_ret
            exact ⟨ret_bool (by rw [HX.out]; simp [emptyB, a1, a2]), ext_trans (ext_alloc (Below.refl _ _) _) hb⟩
      · subst hk
        all_goals
          cases a2 : s.toList.isEmpty
          all_goals
            go_enter Tryd.func12, Tryd.ntmps12
            go_wp2_with (first | (go_at_call 31; refine (HB.out _).mono ?_; rintro e w1 ⟨rfl, hb⟩; obtain ⟨x0, x1, x2, x3⟩ := box_cells hb) | (go_at_call 32; refine (HN.out _ (ext_trans (ext_alloc (Below.refl _ _) _) hb)).mono ?_; rintro e w2 ⟨rfl, hb2⟩; obtain ⟨y0, y1, y2, y3⟩ := box_cells (ext_trans hb hb2); have hb := ext_trans hb hb2) | (go_at_call 33; refine (S2.out _ (ext_trans (ext_alloc (Below.refl _ _) _) hb)).mono ?_; rintro e w3 ⟨rfl, hb3⟩; have hb := ext_trans hb hb3))
            go_ret
            exact ⟨ret_bool (by rw [HX.out]; simp [emptyB, a1, a2]), ext_trans (ext_alloc (Below.refl _ _) _) hb⟩
      · rcases hk with rfl | rfl | rfl | rfl
        all_goals
          cases a2 : s.toList.isEmpty
          all_goals
            go_enter Tryd.func12, Tryd.ntmps12
            go_wp2_with (first | (go_at_call 31; refine (HB.out _).mono ?_; rintro e w1 ⟨rfl, hb⟩; obtain ⟨x0, x1, x2, x3⟩ := box_cells hb) | (go_at_call 32; refine (HN.out _ (ext_trans (ext_alloc (Below.refl _ _) _) hb)).mono ?_; rintro e w2 ⟨rfl, hb2⟩; obtain ⟨y0, y1, y2, y3⟩ := box_cells (ext_trans hb hb2); have hb := ext_trans hb hb2) | (go_at_call 33; refine (S3.out _ (ext_trans (ext_alloc (Below.refl _ _) _) hb)).mono ?_; rintro e w3 ⟨rfl, hb3⟩; have hb := ext_trans hb hb3))
            go_ret
            exact ⟨ret_bool (by rw [HX.out]; simp [emptyB, a1, a2]), ext_trans (ext_alloc (Below.refl _ _) _) hb⟩
      · rcases hk with rfl | rfl
        all_goals
          cases a2 : s.toList.isEmpty
          all_goals
            go_enter Tryd.func12, Tryd.ntmps12
            go_wp2_with (first | (go_at_call 31; refine (HB.out _).mono ?_; rintro e w1 ⟨rfl, hb⟩; obtain ⟨x0, x1, x2, x3⟩ := box_cells hb) | (go_at_call 32; refine (HN.out _ (ext_trans (ext_alloc (Below.refl _ _) _) hb)).mono ?_; rintro e w2 ⟨rfl, hb2⟩; obtain ⟨y0, y1, y2, y3⟩ := box_cells (ext_trans hb hb2); have hb := ext_trans hb hb2) | (go_at_call 33; refine (S4.out _ (ext_trans (ext_alloc (Below.refl _ _) _) hb)).mono ?_; rintro e w3 ⟨rfl, hb3⟩; have hb := ext_trans hb hb3))
            go_ret
            exact ⟨ret_bool (by rw [HX.out]; simp [emptyB, a1, a2]), ext_trans (ext_alloc (Below.refl _ _) _) hb⟩
      · rcases hk with rfl | rfl
        all_goals
          cases a2 : nameB s
          all_goals
            rw [a2] at HN
            go_enter Tryd.func12, Tryd.ntmps12
            go_wp2_with (first | (go_at_call 31; refine (HB.out _).mono ?_; rintro e w1 ⟨rfl, hb⟩; obtain ⟨x0, x1, x2, x3⟩ := box_cells hb) | (go_at_call 32; refine (HN.out _ (ext_trans (ext_alloc (Below.refl _ _) _) hb)).mono ?_; rintro e w2 ⟨rfl, hb2⟩; obtain ⟨y0, y1, y2, y3⟩ := box_cells (ext_trans hb hb2); have hb := ext_trans hb hb2) | (go_at_call 33; refine (S3.out _ (ext_trans (ext_alloc (Below.refl _ _) _) hb)).mono ?_; rintro e w3 ⟨rfl, hb3⟩; have hb := ext_trans hb hb3))
            go_ret
            exact ⟨ret_bool (by rw [HX.out]; simp [a1, a2]), ext_trans (ext_alloc (Below.refl _ _) _) hb⟩
      · rcases hk with rfl | rfl
        all_goals
          cases a2 : nameB s
          · rw [a2] at HN
            go_enter Tryd.func12, Tryd.ntmps12
            go_wp2_with (first | (go_at_call 31; refine (HB.out _).mono ?_; rintro e w1 ⟨rfl, hb⟩; obtain ⟨x0, x1, x2, x3⟩ := box_cells hb) | (go_at_call 32; refine (HN.out _ (ext_trans (ext_alloc (Below.refl _ _) _) hb)).mono ?_; rintro e w2 ⟨rfl, hb2⟩; obtain ⟨y0, y1, y2, y3⟩ := box_cells (ext_trans hb hb2); have hb := ext_trans hb hb2) | (go_at_call 33; refine (S1.out _ (ext_trans (ext_alloc (Below.refl _ _) _) hb)).mono ?_; rintro e w3 ⟨rfl, hb3⟩; have hb := ext_trans hb hb3))
            go_ret
            exact ⟨ret_bool (by rw [HX.out]; simp [a1, a2]), ext_trans (ext_alloc (Below.refl _ _) _) hb⟩
          · rw [a2] at HN
            cases a3 : decide ((ks.length : Int) ≤ 8)
            all_goals
              go_enter Tryd.func12, Tryd.ntmps12
              go_wp2_with (first | (go_at_call 36; refine (HC.out _ (ext_trans (ext_alloc (Below.refl _ _) _) hb)).mono ?_; rintro e w4 ⟨rfl, hb4⟩; have hb := ext_trans hb hb4) | first | (go_at_call 31; refine (HB.out _).mono ?_; rintro e w1 ⟨rfl, hb⟩; obtain ⟨x0, x1, x2, x3⟩ := box_cells hb) | (go_at_call 32; refine (HN.out _ (ext_trans (ext_alloc (Below.refl _ _) _) hb)).mono ?_; rintro e w2 ⟨rfl, hb2⟩; obtain ⟨y0, y1, y2, y3⟩ := box_cells (ext_trans hb hb2); have hb := ext_trans hb hb2) | (go_at_call 33; refine (S1.out _ (ext_trans (ext_alloc (Below.refl _ _) _) hb)).mono ?_; rintro e w3 ⟨rfl, hb3⟩; have hb := ext_trans hb hb3))
              go_ret
              exact ⟨ret_bool (by rw [HX.out]; simp [a1, a2, a3, ← HA.out]), ext_trans (ext_alloc (Below.refl _ _) _) hb⟩
      · subst hk
        all_goals
          cases a2 : nameB s
          all_goals
            rw [a2] at HN
            go_enter Tryd.func12, Tryd.ntmps12
            go_wp2_with (first | (go_at_call 31; refine (HB.out _).mono ?_; rintro e w1 ⟨rfl, hb⟩; obtain ⟨x0, x1, x2, x3⟩ := box_cells hb) | (go_at_call 32; refine (HN.out _ (ext_trans (ext_alloc (Below.refl _ _) _) hb)).mono ?_; rintro e w2 ⟨rfl, hb2⟩; obtain ⟨y0, y1, y2, y3⟩ := box_cells (ext_trans hb hb2); have hb := ext_trans hb hb2) | (go_at_call 33; refine (S5.out _ (ext_trans (ext_alloc (Below.refl _ _) _) hb)).mono ?_; rintro e w3 ⟨rfl, hb3⟩; have hb := ext_trans hb hb3))
            go_ret
            exact ⟨ret_bool (by rw [HX.out]; simp [a1, a2]), ext_trans (ext_alloc (Below.refl _ _) _) hb⟩
      · subst hk
        all_goals
          cases a2 : nameB s
          all_goals
            rw [a2] at HN
            go_enter Tryd.func12, Tryd.ntmps12
            go_wp2_with (first | (go_at_call 31; refine (HB.out _).mono ?_; rintro e w1 ⟨rfl, hb⟩; obtain ⟨x0, x1, x2, x3⟩ := box_cells hb) | (go_at_call 32; refine (HN.out _ (ext_trans (ext_alloc (Below.refl _ _) _) hb)).mono ?_; rintro e w2 ⟨rfl, hb2⟩; obtain ⟨y0, y1, y2, y3⟩ := box_cells (ext_trans hb hb2); have hb := ext_trans hb hb2) | (go_at_call 33; refine (S6.out _ (ext_trans (ext_alloc (Below.refl _ _) _) hb)).mono ?_; rintro e w3 ⟨rfl, hb3⟩; have hb := ext_trans hb hb3))
            go_ret
            exact ⟨ret_bool (by rw [HX.out]; simp [a1, a2]), ext_trans (ext_alloc (Below.refl _ _) _) hb⟩
    · have f40 : (k == 40) = false := by rw [beq_eq_false_iff_ne]; unfold KindOf at hk; omega
      have f41 : (k == 41) = false := by rw [beq_eq_false_iff_ne]; unfold KindOf at hk; omega
      have f42 : (k == 42) = false := by rw [beq_eq_false_iff_ne]; unfold KindOf at hk; omega
      have f56 : (k == 56) = false := by rw [beq_eq_false_iff_ne]; unfold KindOf at hk; omega
      have f43 : (k == 43) = false := by rw [beq_eq_false_iff_ne]; unfold KindOf at hk; omega
      have f46 : (k == 46) = false := by rw [beq_eq_false_iff_ne]; unfold KindOf at hk; omega
      have f47 : (k == 47) = false := by rw [beq_eq_false_iff_ne]; unfold KindOf at hk; omega
      have f48 : (k == 48) = false := by rw [beq_eq_false_iff_ne]; unfold KindOf at hk; omega
      have f49 : (k == 49) = false := by rw [beq_eq_false_iff_ne]; unfold KindOf at hk; omega
      have f52 : (k == 52) = false := by rw [beq_eq_false_iff_ne]; unfold KindOf at hk; omega
      have f53 : (k == 53) = false := by rw [beq_eq_false_iff_ne]; unfold KindOf at hk; omega
      have f44 : (k == 44) = false := by rw [beq_eq_false_iff_ne]; unfold KindOf at hk; omega
      have f45 : (k == 45) = false := by rw [beq_eq_false_iff_ne]; unfold KindOf at hk; omega
      have f50 : (k == 50) = false := by rw [beq_eq_false_iff_ne]; unfold KindOf at hk; omega
      have f51 : (k == 51) = false := by rw [beq_eq_false_iff_ne]; unfold KindOf at hk; omega
      have f54 : (k == 54) = false := by rw [beq_eq_false_iff_ne]; unfold KindOf at hk; omega
      have f55 : (k == 55) = false := by rw [beq_eq_false_iff_ne]; unfold KindOf at hk; omega
      clear hk
      go_enter Tryd.func12, Tryd.ntmps12
      go_wp2_with (first | (go_at_call 31; refine (HB.out _).mono ?_; rintro e w1 ⟨rfl, hb⟩; obtain ⟨x0, x1, x2, x3⟩ := box_cells hb) | (go_at_call 32; refine (HN.out _ (ext_trans (ext_alloc (Below.refl _ _) _) hb)).mono ?_; rintro e w2 ⟨rfl, hb2⟩; obtain ⟨y0, y1, y2, y3⟩ := box_cells (ext_trans hb hb2); have hb := ext_trans hb hb2) | (go_at_call 33; refine (S1.out _ (ext_trans (ext_alloc (Below.refl _ _) _) hb)).mono ?_; rintro e w3 ⟨rfl, hb3⟩; have hb := ext_trans hb hb3))
      go_ret
      exact ⟨ret_bool (by rw [HX.out]; simp [a1, f40, f41, f42, f56, f43, f46, f47, f48, f49, f52, f53, f44, f45, f50, f51, f54, f55]), ext_trans (ext_alloc (Below.refl _ _) _) hb⟩

theorem runs_any (t : Node) : StmtRuns t ∧ BlockRuns t := by
  induction t using Node.ind with
  | h t ih => exact ⟨isStmt_step t fun k hk => (ih k hk).2, isBlock_step t fun k hk => (ih k hk).1⟩
theorem isStmt_any (t : Node) : StmtRuns t := (runs_any t).1
theorem isBlock_any (t : Node) : BlockRuns t := (runs_any t).2
end Go.Proofs.YtgjanglonccclaaDoor

/- Equality of trees, as plain Lean. No program in sight. -/
namespace Go.Proofs.YtgjanglonccclaaDoor
open Go.RowKit
set_option linter.unusedVariables false
set_option linter.unusedSimpArgs false

/-! ### equality -/
def strB (s t : ByteArray) : Bool := s.toList == t.toList
mutual
def Node.eqB : Node → Node → Bool
  | ⟨k, n, s, ks⟩, b => k == b.kind && (n == b.num && (strB s b.name && eqsB ks b.kids))
def eqsB : List Node → List Node → Bool
  | [], [] => true
  | a :: aa, b :: bs => a.eqB b && eqsB aa bs
  | [], _ :: _ => false
  | _ :: _, [] => false
end
theorem Node.eqB_eq (a b : Node) : a.eqB b = (a.kind == b.kind && (a.num == b.num && (strB a.name b.name && eqsB a.kids b.kids))) := by cases a; simp only [Node.eqB]
theorem eqsB_len {aa bs : List Node} (h : ¬ aa.length = bs.length) : eqsB aa bs = false := by
  induction aa generalizing bs with
  | nil => cases bs with
    | nil => simp at h
    | cons => rfl
  | cons a aa ih => cases bs with
    | nil => rfl
    | cons b bs => simp only [eqsB]; rw [ih (bs := bs) (by simpa using h)]; simp
theorem eqsB_hit {aa bs : List Node} {j : Nat} (h1 : j < aa.length) (h2 : j < bs.length) (h : aa[j].eqB bs[j] = false) : eqsB aa bs = false := by
  induction aa generalizing bs j with
  | nil => simp at h1
  | cons a aa ih => cases bs with
    | nil => rfl
    | cons b bs =>
      simp only [eqsB]
      cases j with
      | zero => simp only [List.getElem_cons_zero] at h; rw [h]; rfl
      | succ j => rw [ih (bs := bs) (j := j) (by simpa using h1) (by simpa using h2) (by simpa using h)]; simp
theorem eqsB_all {aa bs : List Node} (hl : aa.length = bs.length) (h : ∀ j (h1 : j < aa.length) (h2 : j < bs.length), aa[j].eqB bs[j] = true) : eqsB aa bs = true := by
  induction aa generalizing bs with
  | nil => cases bs with
    | nil => rfl
    | cons => simp at hl
  | cons a aa ih => cases bs with
    | nil => simp at hl
    | cons b bs =>
      simp only [eqsB]
      have h0 : a.eqB b = true := h 0 (by simp) (by simp)
      rw [h0, ih (bs := bs) (by simpa using hl) (fun j h1 h2 => h (j + 1) (by simpa using h1) (by simpa using h2))]
      rfl
end Go.Proofs.YtgjanglonccclaaDoor

/- Contracts of slices.EqualFunc over nodes and ast.Equal. -/
namespace Go.Proofs.YtgjanglonccclaaDoor
open Go.RowKit
set_option linter.unusedVariables false
set_option linter.unusedSimpArgs false

def EqRuns (a : Node) : Prop := ∀ (b : Node) (A B : Option Addr) (c d : Nat) (w : World) (ok ok' : Nat → Prop), a.In w ok A c → b.In w ok' B d →
  Calls Tryd.prog 39 #[.agg #[.int .u8 a.kind, .int .i64 a.num, .string a.name, .slice A a.kids.length c], .agg #[.int .u8 b.kind, .int .i64 b.num, .string b.name, .slice B b.kids.length d]] w fun e w' => e = .returned (.bool (a.eqB b)) ∧ Below w.heap.size w w'
theorem goes_Equal : Goes 39 := goes_of Tryd.func39 (by kernel_rfl) rfl

theorem equalFunc_any (a b : Node) (A B : Option Addr) (c d : Nat) (w : World) (ok ok' : Nat → Prop) (ha : a.In w ok A c) (hb : b.In w ok' B d) (he : ∀ k ∈ a.kids, EqRuns k) :
    Calls Tryd.prog 59 #[.slice A a.kids.length c, .slice B b.kids.length d, .func (.func 39) #[] #[]] w
      fun e w' => e = .returned (.bool (eqsB a.kids b.kids)) ∧ Below w.heap.size w w' := by
  have HA := Hd.mk ha
  have HB := Hd.mk hb
  have HE := Hd.mk he
  have hl := ha.lenZ
  have hm := hb.lenZ
  clear ha hb he
  cases hlen : ((a.kids.length : Int) != (b.kids.length : Int))
  · have HL := Hd.mk (show a.kids.length = b.kids.length by simp at hlen; omega)
    go_enter Tryd.func59, Tryd.ntmps59
    go_wp2_with fail
    go_loopw [7, 8, 9, 17] (fun v7 v8 v9 v17 W => ∃ j : Nat, j ≤ a.kids.length ∧ v17 = .int .i64 j ∧ Hd (∀ i (h1 : i < a.kids.length) (h2 : i < b.kids.length), i < j → a.kids[i].eqB b.kids[i] = true) ∧ Below w.heap.size w W) (fun _ _ _ v17 _ => a.kids.length - (intOf v17).toNat)
    case atStart => exact ⟨0, Nat.zero_le _, rfl, ⟨fun i _ _ h => by omega⟩, Below.refl _ _⟩
    case round =>
      obtain ⟨j, hj, rfl, HS, HBe⟩ := hrel
      by_cases hlt : j < a.kids.length
      · have hlt2 : j < b.kids.length := by have := HL.out; omega
        obtain ⟨b1, o1, A1, c1, rfl, e0, e1, e2, e3, h4⟩ := (HA.out.below HBe).at_ j hlt
        obtain ⟨b2, o2, B1, d1, rfl, g0, g1, g2, g3, h5⟩ := (HB.out.below HBe).at_ j hlt2
        have HX := Hd.mk (fun W (hb : Below wr.heap.size wr W) => HE.out a.kids[j] (List.getElem_mem _) b.kids[j] A1 B1 c1 d1 W ok ok' (h4.below hb) (h5.below hb))
        have q0 := World.block_lt_of_cell? _ _ g0
        have q1 := World.block_lt_of_cell? _ _ e0
        cases hpj : a.kids[j].eqB b.kids[j]
        · rw [hpj] at HX
          have HF := Hd.mk (eqsB_hit hlt hlt2 hpj).symm
          clear hpj h4 h5
          go_wp2_with (go_at_call 39; refine (HX.out _ (ext_alloc (ext_alloc (Below.refl _ _) _) _)).mono ?_; rintro e w1 ⟨rfl, hb⟩)
          go_ret
          exact ⟨ret_bool HF.out, ext_trans HBe (ext_trans (ext_alloc (ext_alloc (Below.refl _ _) _) _) hb)⟩
        · rw [hpj] at HX
          have HF := Hd.mk hpj
          clear hpj h4 h5
          go_wp2_with (go_at_call 39; refine (HX.out _ (ext_alloc (ext_alloc (Below.refl _ _) _) _)).mono ?_; rintro e w1 ⟨rfl, hb⟩)
          go_roundw
          case rel =>
            refine ⟨j + 1, hlt, by go_num, ⟨fun i h1 h2 h3 => ?_⟩, ext_trans HBe (ext_trans (ext_alloc (ext_alloc (Below.refl _ _) _) _) hb)⟩
            rcases Nat.lt_or_ge i j with h | h
            · exact HS.out i h1 h2 h
            · obtain rfl : i = j := by omega
              exact HF.out
          case measure => simp [intOf]; omega
      · have : j = a.kids.length := by omega
        subst this
        go_wp2_with fail
        go_ret
        exact ⟨ret_bool (eqsB_all HL.out (fun i h1 h2 => HS.out i h1 h2 h1)).symm, HBe⟩
  · have HF := Hd.mk (@eqsB_len a.kids b.kids (by simp at hlen; omega)).symm
    go_enter Tryd.func59, Tryd.ntmps59
    go_wp2_with fail
    go_ret
    exact ⟨ret_bool HF.out, Below.refl _ _⟩

theorem equal_any (a : Node) : EqRuns a := by
  induction a using Node.ind with
  | h a ih =>
  intro b A B c d w ok ok' ha hb
  have HF := Hd.mk (fun W (h : Below w.heap.size w W) => equalFunc_any a b A B c d W ok ok' (ha.below h) (hb.below h) ih)
  have HX := Hd.mk (a.eqB_eq b)
  clear ha hb ih
  cases a0 : (a.kind == b.kind)
  · go_enter Tryd.func39, Tryd.ntmps39
    go_wp2_with fail
    go_ret
    exact ⟨ret_bool (by rw [HX.out, a0]; rfl), ext_alloc (ext_alloc (Below.refl _ _) _) _⟩
  · cases a1 : (a.num == b.num)
    · go_enter Tryd.func39, Tryd.ntmps39
      go_wp2_with fail
      go_ret
      exact ⟨ret_bool (by rw [HX.out, a0, a1]; rfl), ext_alloc (ext_alloc (Below.refl _ _) _) _⟩
    · cases a2 : (a.name.toList == b.name.toList)
      · go_enter Tryd.func39, Tryd.ntmps39
        go_wp2_with fail
        go_ret
        exact ⟨ret_bool (by rw [HX.out, a0, a1, strB, a2]; rfl), ext_alloc (ext_alloc (Below.refl _ _) _) _⟩
      · go_enter Tryd.func39, Tryd.ntmps39
        go_wp2_with (go_at_call 59; refine (HF.out _ (ext_alloc (ext_alloc (Below.refl _ _) _) _)).mono ?_; rintro e w1 ⟨rfl, hb⟩)
        go_ret
        exact ⟨ret_bool (by rw [HX.out, a0, a1, strB, a2]; simp), ext_trans (ext_alloc (ext_alloc (Below.refl _ _) _) _) hb⟩
end Go.Proofs.YtgjanglonccclaaDoor

/- Boxed nodes, one at a time. -/
namespace Go.Proofs.YtgjanglonccclaaDoor
open Go.RowKit
set_option linter.unusedVariables false
set_option linter.unusedSimpArgs false

/-- A block that stands keeps standing. -/
theorem stands {W W2 : World} {p : Nat} {o : Obj} (h : W.heap[p]? = some o) (hb : Below W.heap.size W W2) : W2.heap[p]? = some o := by
  rw [hb.block _ (Array.getElem?_eq_some_iff.1 h).1]; exact h
theorem stands_lt {W : World} {p : Nat} {o : Obj} (h : W.heap[p]? = some o) : p < W.heap.size := (Array.getElem?_eq_some_iff.1 h).1
theorem new_block (w : World) (o : Obj) : (w.alloc o).heap[w.heap.size]? = some o := (Go.MapKept.heap_alloc w o).1
/-- One boxed node. -/
structure Box1 (w W : World) (t : Node) (A : Option Addr) (c : Nat) : Prop where
  below : Below w.heap.size w W
  box : W.heap[w.heap.size]? = some (.cells #[.int .u8 t.kind, .int .i64 t.num, .string t.name, .slice A t.kids.length c] 24)
theorem Box1.start (w : World) (t : Node) (A : Option Addr) (c : Nat) : Box1 w (w.alloc (.cells #[.int .u8 t.kind, .int .i64 t.num, .string t.name, .slice A t.kids.length c] 24)) t A c :=
  ⟨ext_alloc (Below.refl _ _) _, new_block _ _⟩
theorem Box1.next {w W W2 : World} {t : Node} {A : Option Addr} {c : Nat} (B : Box1 w W t A c) (h : Below W.heap.size W W2) : Box1 w W2 t A c :=
  ⟨ext_trans B.below h, stands B.box h⟩
theorem Box1.facts {w W : World} {t : Node} {A : Option Addr} {c : Nat} (B : Box1 w W t A c) :
    (W.cell? ⟨w.heap.size, 0, none⟩ = some (.int .u8 t.kind) ∧ W.cell? ⟨w.heap.size, 1, none⟩ = some (.int .i64 t.num) ∧ W.cell? ⟨w.heap.size, 2, none⟩ = some (.string t.name) ∧ W.cell? ⟨w.heap.size, 3, none⟩ = some (.slice A t.kids.length c)) ∧ w.heap.size < W.heap.size :=
  ⟨four_cells B.box, stands_lt B.box⟩
end Go.Proofs.YtgjanglonccclaaDoor
