/- Contract of simplify.Cancels. -/
import Derived.Test.YtgjanglonccclaaDoorSimP
import Derived.Test.YtgjanglonccclaaDoorInv6
import Derived.Test.YtgjanglonccclaaDoorEqual
namespace Go.Proofs.YtgjanglonccclaaDoor
open Go.RowKit
set_option linter.unusedVariables false
set_option linter.unusedSimpArgs false

/-- Two boxed nodes. -/
structure Boxes2 (w W : World) (t : Node) (A : Option Addr) (c : Nat) (u : Node) (B : Option Addr) (d : Nat) : Prop where
  below : Below w.heap.size w W
  size : w.heap.size + 2 ≤ W.heap.size
  box : W.heap[w.heap.size]? = some (.cells #[.int .u8 t.kind, .int .i64 t.num, .string t.name, .slice A t.kids.length c] 24)
  box2 : W.heap[w.heap.size + 1]? = some (.cells #[.int .u8 u.kind, .int .i64 u.num, .string u.name, .slice B u.kids.length d] 24)
theorem Boxes2.start (w : World) (t : Node) (A : Option Addr) (c : Nat) (u : Node) (B : Option Addr) (d : Nat) : Boxes2 w ((w.alloc (.cells #[.int .u8 t.kind, .int .i64 t.num, .string t.name, .slice A t.kids.length c] 24)).alloc (.cells #[.int .u8 u.kind, .int .i64 u.num, .string u.name, .slice B u.kids.length d] 24)) t A c u B d := by
  refine ⟨ext_alloc (ext_alloc (Below.refl _ _) _) _, by simp, ?_, ?_⟩
  · rw [(Go.MapKept.heap_alloc _ _).2 _ (by simp)]; exact (Go.MapKept.heap_alloc w _).1
  · have := (Go.MapKept.heap_alloc (w.alloc (.cells #[.int .u8 t.kind, .int .i64 t.num, .string t.name, .slice A t.kids.length c] 24)) (.cells #[.int .u8 u.kind, .int .i64 u.num, .string u.name, .slice B u.kids.length d] 24)).1
    rw [World.size_alloc] at this
    exact this
theorem Boxes2.next {w W W2 : World} {t : Node} {A : Option Addr} {c : Nat} {u : Node} {B : Option Addr} {d : Nat} (X : Boxes2 w W t A c u B d) (h : Below W.heap.size W W2) : Boxes2 w W2 t A c u B d :=
  ⟨ext_trans X.below h, Nat.le_trans X.size h.size, by rw [h.block _ (by have := X.size; omega)]; exact X.box, by rw [h.block _ (by have := X.size; omega)]; exact X.box2⟩
theorem Boxes2.facts {w W : World} {t : Node} {A : Option Addr} {c : Nat} {u : Node} {B : Option Addr} {d : Nat} (X : Boxes2 w W t A c u B d) :
    (W.cell? ⟨w.heap.size, 0, none⟩ = some (.int .u8 t.kind) ∧ W.cell? ⟨w.heap.size, 1, none⟩ = some (.int .i64 t.num) ∧ W.cell? ⟨w.heap.size, 2, none⟩ = some (.string t.name) ∧ W.cell? ⟨w.heap.size, 3, none⟩ = some (.slice A t.kids.length c)) ∧
    (W.cell? ⟨w.heap.size + 1, 0, none⟩ = some (.int .u8 u.kind) ∧ W.cell? ⟨w.heap.size + 1, 1, none⟩ = some (.int .i64 u.num) ∧ W.cell? ⟨w.heap.size + 1, 2, none⟩ = some (.string u.name) ∧ W.cell? ⟨w.heap.size + 1, 3, none⟩ = some (.slice B u.kids.length d)) ∧ w.heap.size + 1 < W.heap.size :=
  ⟨four_cells X.box, four_cells X.box2, X.size⟩

set_option maxHeartbeats 1000000 in
theorem cancels_any (a b : Node) (A B : Option Addr) (c d : Nat) (w : World) (ok ok' : Nat → Prop) (hw : Good w) (ha : a.In w ok A c) (hb : b.In w ok' B d) :
    Calls Tryd.prog 14 #[.agg #[.int .u8 a.kind, .int .i64 a.num, .string a.name, .slice A a.kids.length c], .agg #[.int .u8 b.kind, .int .i64 b.num, .string b.name, .slice B b.kids.length d]] w fun e w' => e = .returned (.bool (cancelsB a b)) ∧ Below w.heap.size w w' := by
  have H1 := Hd.mk (fun W (h : Below w.heap.size w W) => isStmt_any a A c W ok (hw.below h) (ha.below h))
  have H2 := Hd.mk (fun W (h : Below w.heap.size w W) => isStmt_any b B d W ok' (hw.below h) (hb.below h))
  have B0 := Hd.mk (Boxes2.start w a A c b B d)
  have HX := Hd.mk (show cancelsB a b = (a.isStmt && (b.isStmt && (!(a.kind == 56) && a.inv.eqB b))) from rfl)
  have HBr := Hd.mk (fun W (h : Below w.heap.size w W) => hb.below h)
  cases h1 : a.isStmt
  · rw [h1] at H1
    clear hw ha hb
    go_enter Tryd.func14, Tryd.ntmps14
    go_wp2_with fail
    refine (H1.out _ B0.out.below).mono ?_
    rintro e w1 ⟨rfl, hb1⟩
    go_wp2_with fail
    go_ret
    exact ⟨ret_bool (by rw [HX.out, h1]; rfl), ext_trans B0.out.below hb1⟩
  · rw [h1] at H1
    cases h2 : b.isStmt
    · rw [h2] at H2
      clear hw ha hb
      go_enter Tryd.func14, Tryd.ntmps14
      go_wp2_with fail
      refine (H1.out _ B0.out.below).mono ?_
      rintro e w1 ⟨rfl, hb1⟩
      have B1 := Hd.mk (B0.out.next hb1)
      obtain ⟨⟨x0, x1, x2, x3⟩, ⟨y0, y1, y2, y3⟩, hz⟩ := B1.out.facts
      go_wp2_with fail
      refine (H2.out _ B1.out.below).mono ?_
      rintro e w2 ⟨rfl, hb2⟩
      go_wp2_with fail
      go_ret
      exact ⟨ret_bool (by rw [HX.out, h1, h2]; rfl), ext_trans B1.out.below hb2⟩
    · rw [h2] at H2
      cases h3 : (a.kind == 56)
      · have HI := Hd.mk (fun W (h : Below w.heap.size w W) => invStmt_any a (.inl h1) A c W ok (hw.below h) (ha.below h))
        clear hw ha hb
        go_enter Tryd.func14, Tryd.ntmps14
        go_wp2_with fail
        refine (H1.out _ B0.out.below).mono ?_
        rintro e w1 ⟨rfl, hb1⟩
        have B1 := Hd.mk (B0.out.next hb1)
        obtain ⟨⟨x0, x1, x2, x3⟩, ⟨y0, y1, y2, y3⟩, hz⟩ := B1.out.facts
        go_wp2_with fail
        refine (H2.out _ B1.out.below).mono ?_
        rintro e w2 ⟨rfl, hb2⟩
        have B2 := Hd.mk (B1.out.next hb2)
        obtain ⟨⟨x0, x1, x2, x3⟩, ⟨y0, y1, y2, y3⟩, hz⟩ := B2.out.facts
        go_wp2_with fail
        refine (HI.out _ B2.out.below).mono ?_
        rintro e w3 ⟨A3, c3, rfl, hb3, ho3⟩
        have B3 := Hd.mk (B2.out.next hb3)
        have B4 := Hd.mk (B3.out.next (ext_alloc (Below.refl _ _) (.cells #[.int .u8 a.inv.kind, .int .i64 a.inv.num, .string a.inv.name, .slice A3 a.inv.kids.length c3] 24)))
        obtain ⟨⟨x0, x1, x2, x3⟩, ⟨y0, y1, y2, y3⟩, hz⟩ := B3.out.facts
        have HO := Hd.mk (ho3.below (ext_alloc (Below.refl _ _) (.cells #[.int .u8 a.inv.kind, .int .i64 a.inv.num, .string a.inv.name, .slice A3 a.inv.kids.length c3] 24)))
        clear ho3 hb1 hb2 hb3
        go_wp2_with fail
        refine (equal_any a.inv b A3 B c3 d _ _ _ (Node.Own.reads _ HO.out) (HBr.out _ B4.out.below)).mono ?_
        rintro e w4 ⟨rfl, hb4⟩
        go_wp2_with fail
        go_ret
        exact ⟨ret_bool (by rw [HX.out, h1, h2, h3]; simp), ext_trans B4.out.below hb4⟩
      · clear hw ha hb
        go_enter Tryd.func14, Tryd.ntmps14
        go_wp2_with fail
        refine (H1.out _ B0.out.below).mono ?_
        rintro e w1 ⟨rfl, hb1⟩
        have B1 := Hd.mk (B0.out.next hb1)
        obtain ⟨⟨x0, x1, x2, x3⟩, ⟨y0, y1, y2, y3⟩, hz⟩ := B1.out.facts
        go_wp2_with fail
        refine (H2.out _ B1.out.below).mono ?_
        rintro e w2 ⟨rfl, hb2⟩
        have B2 := Hd.mk (B1.out.next hb2)
        obtain ⟨⟨x0, x1, x2, x3⟩, ⟨y0, y1, y2, y3⟩, hz⟩ := B2.out.facts
        go_wp2_with fail
        go_ret
        exact ⟨ret_bool (by rw [HX.out, h1, h2, h3]; rfl), ext_trans B1.out.below hb2⟩
end Go.Proofs.YtgjanglonccclaaDoor
