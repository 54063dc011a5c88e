/- How trees lie in memory: 'Node.In w ok t A c': the children of t lie behind the slice header (A, length, c) of world w, in blocks that satisfy ok. -/
import Derived.Test.YtgjanglonccclaaDoorNode
import Derived.Test.YtgjanglonccclaaDoorProg
import Derived.WalkKit
import Derived.KernelRfl
import Derived.Deep.QuietTactic
import Derived.BigQuiet
import Derived.Deep.LoopGhost
namespace Go.Proofs.YtgjanglonccclaaDoor
open Go.RowKit
set_option linter.unusedVariables false
set_option linter.unusedSimpArgs false

/-- What holds of the plain fields of a node that lies in memory. -/
structure Node.Fits (t : Node) : Prop where
  kind0 : 0 ≤ t.kind
  kind1 : t.kind ≤ 255
  num0 : -9223372036854775808 ≤ t.num
  num1 : t.num ≤ 9223372036854775807
  name : t.name.size ≤ 140737488355328

mutual
def Node.In (w : World) (ok : Nat → Prop) : Node → Option Addr → Nat → Prop
  | ⟨k, n, s, ks⟩, A, c => Node.Fits ⟨k, n, s, ks⟩ ∧ ks.length ≤ c ∧ ks.length * 56 ≤ 140737488355328 ∧ (ks = [] ∨ ∃ b o, A = some ⟨b, o, none⟩ ∧ ok b ∧ RowIn w ok ks b o)
def RowIn (w : World) (ok : Nat → Prop) : List Node → Nat → Nat → Prop
  | [], _, _ => True
  | t :: ts, b, o => (∃ A c, w.cell? ⟨b, o, none⟩ = some (.int .u8 t.kind) ∧ w.cell? ⟨b, o + 1, none⟩ = some (.int .i64 t.num) ∧ w.cell? ⟨b, o + 2, none⟩ = some (.string t.name) ∧
      w.cell? ⟨b, o + 3, none⟩ = some (.slice A t.kids.length c) ∧ Node.In w ok t A c) ∧ RowIn w ok ts b (o + 4)
end
theorem Node.In_eq {w : World} {ok : Nat → Prop} {t : Node} {A : Option Addr} {c : Nat} :
    t.In w ok A c ↔ t.Fits ∧ t.kids.length ≤ c ∧ t.kids.length * 56 ≤ 140737488355328 ∧ (t.kids = [] ∨ ∃ b o, A = some ⟨b, o, none⟩ ∧ ok b ∧ RowIn w ok t.kids b o) := by
  cases t; simp only [Node.In]

/-- The cells of one node at a place. -/
def NodeAt (w : World) (ok : Nat → Prop) (t : Node) (b o : Nat) : Prop :=
  ∃ A c, w.cell? ⟨b, o, none⟩ = some (.int .u8 t.kind) ∧ w.cell? ⟨b, o + 1, none⟩ = some (.int .i64 t.num) ∧ w.cell? ⟨b, o + 2, none⟩ = some (.string t.name) ∧
      w.cell? ⟨b, o + 3, none⟩ = some (.slice A t.kids.length c) ∧ Node.In w ok t A c

theorem RowIn.iff {w : World} {ok : Nat → Prop} {b : Nat} : ∀ {ks : List Node} {o : Nat}, RowIn w ok ks b o ↔ ∀ j (h : j < ks.length), NodeAt w ok ks[j] b (o + j * 4) := by
  intro ks
  induction ks with
  | nil => intro o; simp [RowIn]
  | cons t ts ih =>
    intro o
    rw [RowIn, ih]
    constructor
    · rintro ⟨h0, h⟩ j hj
      cases j with
      | zero => rw [Nat.zero_mul, Nat.add_zero]; exact h0
      | succ j =>
        have := h j (by simpa using hj)
        rw [show o + (j + 1) * 4 = o + 4 + j * 4 by omega]
        exact this
    · intro h
      refine ⟨by have := h 0 (by simp); rw [Nat.zero_mul, Nat.add_zero] at this; exact this, fun j hj => ?_⟩
      have := h (j + 1) (by simpa using hj)
      rw [show o + (j + 1) * 4 = o + 4 + j * 4 by omega] at this
      exact this

theorem Node.In.fits {w : World} {ok : Nat → Prop} {t : Node} {A : Option Addr} {c : Nat} (h : t.In w ok A c) : t.Fits := (Node.In_eq.1 h).1
theorem Node.In.len {w : World} {ok : Nat → Prop} {t : Node} {A : Option Addr} {c : Nat} (h : t.In w ok A c) : t.kids.length ≤ c := (Node.In_eq.1 h).2.1
theorem Node.In.cap {w : World} {ok : Nat → Prop} {t : Node} {A : Option Addr} {c : Nat} (h : t.In w ok A c) : t.kids.length * 56 ≤ 140737488355328 := (Node.In_eq.1 h).2.2.1
theorem Node.In.lenZ {w : World} {ok : Nat → Prop} {t : Node} {A : Option Addr} {c : Nat} (h : t.In w ok A c) : (t.kids.length : Int) ≤ 2513169434916 := by
  have := h.cap; omega

/-- Child j in memory. -/
theorem Node.In.at_ {w : World} {ok : Nat → Prop} {t : Node} {A : Option Addr} {c : Nat} (h : t.In w ok A c) (j : Nat) (hj : j < t.kids.length) :
    ∃ b o A1 c1, A = some ⟨b, o, none⟩ ∧ w.cell? ⟨b, o + j * 4, none⟩ = some (.int .u8 t.kids[j].kind) ∧ w.cell? ⟨b, o + j * 4 + 1, none⟩ = some (.int .i64 t.kids[j].num) ∧
      w.cell? ⟨b, o + j * 4 + 2, none⟩ = some (.string t.kids[j].name) ∧ w.cell? ⟨b, o + j * 4 + 3, none⟩ = some (.slice A1 t.kids[j].kids.length c1) ∧ t.kids[j].In w ok A1 c1 := by
  rcases (Node.In_eq.1 h).2.2.2 with h0 | ⟨b, o, rfl, hb, hr⟩
  · rw [h0] at hj; simp at hj
  · obtain ⟨A1, c1, r⟩ := RowIn.iff.1 hr j hj
    exact ⟨b, o, A1, c1, rfl, r⟩

/-- A reading stands in every world that has the same blocks. -/
theorem Node.In.move {w w' : World} {ok ok' : Nat → Prop} (hb : ∀ b, ok b → b < w.heap.size → w'.heap[b]? = w.heap[b]?) (ho : ∀ b, ok b → b < w.heap.size → ok' b) :
    ∀ (t : Node) {A : Option Addr} {c : Nat}, t.In w ok A c → t.In w' ok' A c := by
  intro t
  induction t using Node.ind with
  | h t ih =>
    intro A c h
    rw [Node.In_eq] at h ⊢
    refine ⟨h.1, h.2.1, h.2.2.1, ?_⟩
    rcases h.2.2.2 with h0 | ⟨b, o, rfl, hok, hr⟩
    · exact .inl h0
    · by_cases hk : t.kids = []
      · exact .inl hk
      · right
        have hr' := RowIn.iff.1 hr
        have hlt : b < w.heap.size := by
          obtain ⟨A1, c1, e0, _⟩ := hr' 0 (List.length_pos_iff.2 hk)
          exact World.block_lt_of_cell? w _ e0
        refine ⟨b, o, rfl, ho b hok hlt, RowIn.iff.2 fun j hj => ?_⟩
        obtain ⟨A1, c1, e0, e1, e2, e3, e4⟩ := hr' j hj
        have hc : ∀ q, w'.cell? ⟨b, q, none⟩ = w.cell? ⟨b, q, none⟩ := fun q => World.cell?_of_block (w := w) (hb b hok hlt)
        exact ⟨A1, c1, by rw [hc]; exact e0, by rw [hc]; exact e1, by rw [hc]; exact e2, by rw [hc]; exact e3, ih _ (List.getElem_mem _) e4⟩

theorem Node.In.below {w w' : World} {ok : Nat → Prop} {t : Node} {A : Option Addr} {c : Nat} (h : t.In w ok A c) (hb : Below w.heap.size w w') : t.In w' ok A c :=
  Node.In.move (fun b _ hl => hb.block b hl) (fun _ h _ => h) t h

/-- A function value of a function with a body is entered. -/
def Goes (fn : FuncId) : Prop := ∀ (args : Array Value) (w : World), (callFunc fn args).run Tryd.prog w = .ok (.enter fn args) w
theorem goes_of {f : FuncId} {fn : Func} {c : Code} (hf : Tryd.prog.funcs[f]? = some fn) (hname : (fn.name == "runtime.NumGoroutine") = false) (hb : fn.body = some c) : Goes f := by
  intro args w
  have h1 : fn.name ≠ "runtime.NumGoroutine" := by simpa using hname
  simp [callFunc, hf, h1, hb, mark]
theorem cell_blk {w : World} {g : Nat} {cs : Array Value} {t : TypeId} {fr : Nat × Nat} (h : w.heap[g]? = some (.cells cs t fr)) (i : Nat) : w.cell? ⟨g, i, none⟩ = cs[i]? := by simp [World.cell?, h]
/-- A block of four cells. -/
theorem four_cells {w : World} {g : Nat} {v0 v1 v2 v3 : Value} {t : TypeId} (h : w.heap[g]? = some (.cells #[v0, v1, v2, v3] t)) :
    w.cell? ⟨g, 0, none⟩ = some v0 ∧ w.cell? ⟨g, 1, none⟩ = some v1 ∧ w.cell? ⟨g, 2, none⟩ = some v2 ∧ w.cell? ⟨g, 3, none⟩ = some v3 := ⟨cell_blk h 0, cell_blk h 1, cell_blk h 2, cell_blk h 3⟩
theorem blk_free {w : World} {g : Nat} {cs : Array Value} {t : TypeId} (h : w.heap[g]? = some (.cells cs t)) (i : Nat) : w.frozen? ⟨g, i, none⟩ = false := by
  simp only [World.frozen?, h, Bool.and_eq_false_iff, decide_eq_false_iff_not]; omega
/-- A store into a block of cells. -/
theorem set_blk {w : World} {g : Nat} {cs : Array Value} {t : TypeId} {fr : Nat × Nat} (h : w.heap[g]? = some (.cells cs t fr)) (i : Nat) (v : Value) : (w.setCell ⟨g, i, none⟩ v).heap[g]? = some (.cells (cs.setIfInBounds i v) t fr) := by
  simp [World.setCell, Array.getElem?_modify, h]
theorem set_other {w : World} {g b i : Nat} {v : Value} (hb : b ≠ g) : (w.setCell ⟨g, i, none⟩ v).heap[b]? = w.heap[b]? := Below.heap_setCell _ _ _ _ hb
theorem ret_int {k : IntKind} {a b : Int} (h : a = b) : Ending.returned (.int k a) = .returned (.int k b) := by rw [h]
theorem ret_bool {a b : Bool} (h : a = b) : Ending.returned (.bool a) = .returned (.bool b) := by rw [h]
/-- Growth on growth. -/
theorem ext_trans {w w1 w2 : World} (h : Below w.heap.size w w1) (k : Below w1.heap.size w1 w2) : Below w.heap.size w w2 := h.trans (k.mono h.size)
theorem ext_alloc {w w1 : World} (h : Below w.heap.size w w1) (o : Obj) : Below w.heap.size w (w1.alloc o) := h.alloc h.size o
/-- Facts on a boxed node behind a call. -/
theorem box_cells {w w1 : World} {v0 v1 v2 v3 : Value} {T : TypeId} (hb : Below (w.alloc (.cells #[v0, v1, v2, v3] T)).heap.size (w.alloc (.cells #[v0, v1, v2, v3] T)) w1) :
    w1.cell? ⟨w.heap.size, 0, none⟩ = some v0 ∧ w1.cell? ⟨w.heap.size, 1, none⟩ = some v1 ∧ w1.cell? ⟨w.heap.size, 2, none⟩ = some v2 ∧ w1.cell? ⟨w.heap.size, 3, none⟩ = some v3 := by
  have h0 : w1.heap[w.heap.size]? = some (.cells #[v0, v1, v2, v3] T) := by
    rw [hb.block _ (by simp)]
    exact (Go.MapKept.heap_alloc w _).1
  exact ⟨cell_blk h0 0, cell_blk h0 1, cell_blk h0 2, cell_blk h0 3⟩

end Go.Proofs.YtgjanglonccclaaDoor
