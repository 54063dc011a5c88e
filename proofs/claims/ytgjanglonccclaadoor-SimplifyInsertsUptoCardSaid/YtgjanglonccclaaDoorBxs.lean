/- Boxed nodes, one at a time. -/
import Derived.Test.YtgjanglonccclaaDoorBase
namespace Go.Proofs.YtgjanglonccclaaDoor
open Go.RowKit
set_option linter.unusedVariables false
set_option linter.unusedSimpArgs false

/-- A block that stands keeps standing. -/
theorem stands {W W2 : World} {p : Nat} {o : Obj} (h : W.heap[p]? = some o) (hb : Below W.heap.size W W2) : W2.heap[p]? = some o := by
  rw [hb.block _ (Array.getElem?_eq_some_iff.1 h).1]; exact h
theorem stands_lt {W : World} {p : Nat} {o : Obj} (h : W.heap[p]? = some o) : p < W.heap.size := (Array.getElem?_eq_some_iff.1 h).1
theorem new_block (w : World) (o : Obj) : (w.alloc o).heap[w.heap.size]? = some o := (Go.MapKept.heap_alloc w o).1
/-- One boxed node. -/
structure Box1 (w W : World) (t : Node) (A : Option Addr) (c : Nat) : Prop where
  below : Below w.heap.size w W
  box : W.heap[w.heap.size]? = some (.cells #[.int .u8 t.kind, .int .i64 t.num, .string t.name, .slice A t.kids.length c] 24)
theorem Box1.start (w : World) (t : Node) (A : Option Addr) (c : Nat) : Box1 w (w.alloc (.cells #[.int .u8 t.kind, .int .i64 t.num, .string t.name, .slice A t.kids.length c] 24)) t A c :=
  ⟨ext_alloc (Below.refl _ _) _, new_block _ _⟩
theorem Box1.next {w W W2 : World} {t : Node} {A : Option Addr} {c : Nat} (B : Box1 w W t A c) (h : Below W.heap.size W W2) : Box1 w W2 t A c :=
  ⟨ext_trans B.below h, stands B.box h⟩
theorem Box1.facts {w W : World} {t : Node} {A : Option Addr} {c : Nat} (B : Box1 w W t A c) :
    (W.cell? ⟨w.heap.size, 0, none⟩ = some (.int .u8 t.kind) ∧ W.cell? ⟨w.heap.size, 1, none⟩ = some (.int .i64 t.num) ∧ W.cell? ⟨w.heap.size, 2, none⟩ = some (.string t.name) ∧ W.cell? ⟨w.heap.size, 3, none⟩ = some (.slice A t.kids.length c)) ∧ w.heap.size < W.heap.size :=
  ⟨four_cells B.box, stands_lt B.box⟩
end Go.Proofs.YtgjanglonccclaaDoor
