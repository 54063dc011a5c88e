/- Contract of the reference's Cancels. -/
import Derived.Test.YtgjanglonccclaaDoorRefInv
import Derived.Test.YtgjanglonccclaaDoorRefEq
import Derived.Test.YtgjanglonccclaaDoorSim3
namespace Go.Proofs.YtgjanglonccclaaDoor
open Go.RowKit
set_option linter.unusedVariables false
set_option linter.unusedSimpArgs false

def refCancelsB (a b : Node) : Bool := !(a.kind == 56) && a.inv.eqB b

set_option maxHeartbeats 1000000 in
theorem refCancels_any (a b : Node) (hst : a.isStmt = true) (A B : Option Addr) (c d : Nat) (w : World) (ok ok' : Nat → Prop) (ha : a.In w ok A c) (hb : b.In w ok' B d) :
    Calls Tryd.prog 13 #[.agg #[.int .u8 a.kind, .int .i64 a.num, .string a.name, .slice A a.kids.length c], .agg #[.int .u8 b.kind, .int .i64 b.num, .string b.name, .slice B b.kids.length d]] w fun e w' => e = .returned (.bool (refCancelsB a b)) ∧ Below w.heap.size w w' := by
  have ha' : a.In w (fun x => x < w.heap.size) A c := Node.In.move (fun _ _ _ => rfl) (fun _ _ h => h) _ ha
  have B0 := Hd.mk (Boxes2.start w a A c b B d)
  have HI := Hd.mk (fun W (h : Below w.heap.size w W) => refInv_any a (.inl hst) A c W w.heap.size h.size (ha'.below h))
  have HB := Hd.mk hb
  clear ha ha' hb
  cases hk : (a.kind == 56)
  · have HX := Hd.mk (show refCancelsB a b = a.inv.eqB b by simp [refCancelsB, hk])
    have n0 : (a.kind != 56) = true := by simp [bne, hk]
    rw [HX.out]
    go_enter Tryd.func13, Tryd.ntmps13
    go_wp2_with fail
    obtain ⟨⟨x0, x1, x2, x3⟩, ⟨y0, y1, y2, y3⟩, hz⟩ := B0.out.facts
    go_region_held3 (fun W' => (W'.cell? ⟨w.heap.size, 0, none⟩ = some (.int .u8 a.kind) ∧ W'.cell? ⟨w.heap.size, 1, none⟩ = some (.int .i64 a.num) ∧ W'.cell? ⟨w.heap.size, 2, none⟩ = some (.string a.name) ∧ W'.cell? ⟨w.heap.size, 3, none⟩ = some (.slice A a.kids.length c)) ∧
      (W'.cell? ⟨w.heap.size + 1, 0, none⟩ = some (.int .u8 b.kind) ∧ W'.cell? ⟨w.heap.size + 1, 1, none⟩ = some (.int .i64 b.num) ∧ W'.cell? ⟨w.heap.size + 1, 2, none⟩ = some (.string b.name) ∧ W'.cell? ⟨w.heap.size + 1, 3, none⟩ = some (.slice B b.kids.length d)))
      (go_keep)
      (first
        | (have hbb := HB1.out; go_at_call 18; refine (refEqual_any a.inv b _ B _ d _ _ ok' HI1.out (HB.out.below (ext_trans B0.out.below HB1.out))).mono ?_; rintro e w2 ⟨rfl, hb2⟩; have B2 := (B0.out.next (ext_trans HB1.out hb2)); obtain ⟨⟨x0, x1, x2, x3⟩, ⟨y0, y1, y2, y3⟩, hz⟩ := B2.facts; have HB2 := Hd.mk B2; clear B2)
        | (go_at_call 38; refine (HI.out _ (B0.out.below.drew)).mono ?_; rintro e w1 ⟨A1, c1, rfl, hb1, hi1⟩; have B1 := B0.out.next (ext_trans ((Below.refl _ _).drew) hb1); have HB1 := Hd.mk (ext_trans ((Below.refl _ _).drew) hb1); obtain ⟨⟨x0, x1, x2, x3⟩, ⟨y0, y1, y2, y3⟩, hz⟩ := B1.facts; have HI1 := Hd.mk hi1; clear hi1 hb1 B1))
    go_wp2_with fail
    go_ret
    exact ⟨rfl, HB2.out.below⟩
  · have HX := Hd.mk (show refCancelsB a b = false by simp [refCancelsB, hk])
    have n0 : (a.kind != 56) = false := by simp [bne, hk]
    rw [HX.out]
    go_enter Tryd.func13, Tryd.ntmps13
    go_wp2_with fail
    go_quiet (fail)
    go_wp2_with fail
    go_ret
    exact ⟨rfl, ext_drewN B0.out.below _⟩
end Go.Proofs.YtgjanglonccclaaDoor
