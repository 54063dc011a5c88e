/- A function with one boxed node and a node as its result: its two blocks. -/
import Derived.Test.YtgjanglonccclaaDoorOwn2
namespace Go.Proofs.YtgjanglonccclaaDoor
open Go.RowKit
set_option linter.unusedVariables false
set_option linter.unusedSimpArgs false

/-- The block of the parameter and the block of the result, as long as the result has not been written. -/
structure Boxes (w W : World) (t : Node) (A : Option Addr) (c : Nat) : Prop where
  below : Below w.heap.size w W
  size : w.heap.size + 2 ≤ W.heap.size
  box : W.heap[w.heap.size]? = some (.cells #[.int .u8 t.kind, .int .i64 t.num, .string t.name, .slice A t.kids.length c] 24)
  res : W.heap[w.heap.size + 1]? = some (.cells #[.int .u8 0, .int .i64 0, .string ⟨#[]⟩, .slice none 0 0] 24)
theorem Boxes.start (w : World) (t : Node) (A : Option Addr) (c : Nat) : Boxes w ((w.alloc (.cells #[.int .u8 t.kind, .int .i64 t.num, .string t.name, .slice A t.kids.length c] 24)).alloc (.cells #[.int .u8 0, .int .i64 0, .string ⟨#[]⟩, .slice none 0 0] 24)) t A c := by
  refine ⟨ext_alloc (ext_alloc (Below.refl _ _) _) _, by simp, ?_, ?_⟩
  · rw [(Go.MapKept.heap_alloc _ _).2 _ (by simp)]; exact (Go.MapKept.heap_alloc w _).1
  · have := (Go.MapKept.heap_alloc (w.alloc (.cells #[.int .u8 t.kind, .int .i64 t.num, .string t.name, .slice A t.kids.length c] 24)) (.cells #[.int .u8 0, .int .i64 0, .string ⟨#[]⟩, .slice none 0 0] 24)).1
    rw [World.size_alloc] at this
    exact this
theorem Boxes.next {w W W2 : World} {t : Node} {A : Option Addr} {c : Nat} (B : Boxes w W t A c) (h : Below W.heap.size W W2) : Boxes w W2 t A c :=
  ⟨ext_trans B.below h, Nat.le_trans B.size h.size, by rw [h.block _ (by have := B.size; omega)]; exact B.box, by rw [h.block _ (by have := B.size; omega)]; exact B.res⟩
/-- What the walk wants of them. -/
theorem Boxes.facts {w W : World} {t : Node} {A : Option Addr} {c : Nat} (B : Boxes w W t A c) :
    (W.cell? ⟨w.heap.size, 0, none⟩ = some (.int .u8 t.kind) ∧ W.cell? ⟨w.heap.size, 1, none⟩ = some (.int .i64 t.num) ∧ W.cell? ⟨w.heap.size, 2, none⟩ = some (.string t.name) ∧ W.cell? ⟨w.heap.size, 3, none⟩ = some (.slice A t.kids.length c)) ∧
    (W.cell? ⟨w.heap.size + 1, 0, none⟩ = some (.int .u8 0) ∧ W.cell? ⟨w.heap.size + 1, 1, none⟩ = some (.int .i64 0) ∧ W.cell? ⟨w.heap.size + 1, 2, none⟩ = some (.string ⟨#[]⟩) ∧ W.cell? ⟨w.heap.size + 1, 3, none⟩ = some (.slice none 0 0)) ∧
    (W.frozen? ⟨w.heap.size + 1, 0, none⟩ = false ∧ W.frozen? ⟨w.heap.size + 1, 1, none⟩ = false ∧ W.frozen? ⟨w.heap.size + 1, 2, none⟩ = false ∧ W.frozen? ⟨w.heap.size + 1, 3, none⟩ = false) ∧ w.heap.size + 1 < W.heap.size :=
  ⟨four_cells B.box, four_cells B.res, ⟨blk_free B.res 0, blk_free B.res 1, blk_free B.res 2, blk_free B.res 3⟩, B.size⟩
/-- The result written and handed back: the world. -/
theorem Boxes.out {w W W2 : World} {t u : Node} {A A1 : Option Addr} {c c1 : Nat} (B : Boxes w W t A c) (h : Below W.heap.size W W2) (ho : u.Own W2 ⟨A1, c1, fun x => W.heap.size ≤ x⟩) (v0 v1 v2 v3 : Value) :
    Below w.heap.size w ((((W2.setCell ⟨w.heap.size + 1, 0, none⟩ v0).setCell ⟨w.heap.size + 1, 1, none⟩ v1).setCell ⟨w.heap.size + 1, 2, none⟩ v2).setCell ⟨w.heap.size + 1, 3, none⟩ v3) ∧
    u.Own ((((W2.setCell ⟨w.heap.size + 1, 0, none⟩ v0).setCell ⟨w.heap.size + 1, 1, none⟩ v1).setCell ⟨w.heap.size + 1, 2, none⟩ v2).setCell ⟨w.heap.size + 1, 3, none⟩ v3) ⟨A1, c1, fun x => w.heap.size ≤ x⟩ := by
  have hs := B.size
  exact ⟨res_below (ext_trans B.below h) (by omega) _ _ _ _, Node.Own.mono (res_own ho (fun h => by have : W.heap.size ≤ w.heap.size + 1 := h; omega)) (fun x hx => by have : W.heap.size ≤ x := hx; omega)⟩
end Go.Proofs.YtgjanglonccclaaDoor
