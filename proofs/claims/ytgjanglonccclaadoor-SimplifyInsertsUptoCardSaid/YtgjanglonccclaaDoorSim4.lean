/- Contract of simplify.Block. -/
import Derived.Test.YtgjanglonccclaaDoorSim3
import Derived.Test.YtgjanglonccclaaDoorClone
import Derived.Test.YtgjanglonccclaaDoorAst4
namespace Go.Proofs.YtgjanglonccclaaDoor
open Go.RowKit
set_option linter.unusedVariables false
set_option linter.unusedSimpArgs false

theorem sim_both (t : Node) : SimRuns t ∧ EachRuns t := by
  induction t using Node.ind with
  | h t ih => exact ⟨block_step t (fun k hk => (ih k hk).2), fun A c w ok hw h => each_any t (fun k hk _ => (ih k hk).1) A c w ok hw h⟩
def blockB (t : Node) : Node := if t.isBlock then t.simp else t
theorem blockB_eq (t : Node) : blockB t = if t.isBlock then t.simp else t := rfl

theorem Block_any (t : Node) (A : Option Addr) (c : Nat) (w : World) (ok : Nat → Prop) (hw : Good w) (h : t.In w ok A c) :
    Calls Tryd.prog 17 #[.agg #[.int .u8 t.kind, .int .i64 t.num, .string t.name, .slice A t.kids.length c]] w (Fresh w (blockB t)) := by
  have HB := Hd.mk (fun W (hb : Below w.heap.size w W) => isBlock_any t A c W ok (hw.below hb) (h.below hb))
  have HC := Hd.mk (fun W (hb : Below w.heap.size w W) => clone_any t A c W ok (h.below hb))
  have HS := Hd.mk (fun W (hb : Below w.heap.size w W) => (sim_both t).1 A c W ok (hw.below hb) (h.below hb))
  have B0 := Hd.mk (Boxes.start w t A c)
  clear hw h
  obtain ⟨r, hr⟩ : ∃ r, blockB t = r := ⟨_, rfl⟩
  cases hs : t.isBlock
  · rw [blockB_eq, hs] at hr
    simp at hr
    rw [hs] at HB
    subst hr
    have HR := Hd.mk (show blockB t = t by rw [blockB_eq, hs]; rfl)
    rw [HR.out]
    clear hs
    go_enter Tryd.func17, Tryd.ntmps17
    go_wp2_with fail
    refine (HB.out _ B0.out.below).mono ?_
    rintro e w1 ⟨rfl, hb⟩
    have B1 := Hd.mk (B0.out.next hb)
    obtain ⟨⟨x0, x1, x2, x3⟩, ⟨y0, y1, y2, y3⟩, ⟨f0, f1, f2, f3⟩, hz⟩ := B1.out.facts
    go_wp2_with fail
    refine (HC.out _ B1.out.below).mono ?_
    rintro e w3 ⟨A3, c3, rfl, hb3, ho3⟩
    have B3 := Hd.mk (B1.out.next hb3)
    have HO := Hd.mk (B1.out.out hb3 ho3 (.int .u8 t.kind) (.int .i64 t.num) (.string t.name) (.slice A3 t.kids.length c3))
    obtain ⟨⟨x0, x1, x2, x3⟩, ⟨y0, y1, y2, y3⟩, ⟨f0, f1, f2, f3⟩, hz⟩ := B3.out.facts
    clear ho3 hb3 hb
    go_wp2_with fail
    refine bodyPost_ret (v := .agg #[.int .u8 t.kind, .int .i64 t.num, .string t.name, .slice A3 t.kids.length c3]) ?_ rfl ⟨A3, c3, rfl, HO.out.1, HO.out.2⟩
    have hc := res_cells (u0 := .int .u8 t.kind) (u1 := .int .i64 t.num) (u2 := .string t.name) (u3 := .slice A3 t.kids.length c3) B3.out.res
    simp [results, Tryd.results17, go_sem, hc]
  · rw [hs] at HB
    have HR := Hd.mk (show blockB t = t.simp by rw [blockB_eq, hs]; rfl)
    rw [HR.out]
    generalize t.simp = s at HS HR
    clear hs hr
    go_enter Tryd.func17, Tryd.ntmps17
    go_wp2_with fail
    refine (HB.out _ B0.out.below).mono ?_
    rintro e w1 ⟨rfl, hb⟩
    have B1 := Hd.mk (B0.out.next hb)
    obtain ⟨⟨x0, x1, x2, x3⟩, ⟨y0, y1, y2, y3⟩, ⟨f0, f1, f2, f3⟩, hz⟩ := B1.out.facts
    go_wp2_with fail
    refine (HS.out _ B1.out.below).mono ?_
    rintro e w3 ⟨A3, c3, rfl, hb3, ho3⟩
    have B3 := Hd.mk (B1.out.next hb3)
    have HO := Hd.mk (B1.out.out hb3 ho3 (.int .u8 s.kind) (.int .i64 s.num) (.string s.name) (.slice A3 s.kids.length c3))
    obtain ⟨⟨x0, x1, x2, x3⟩, ⟨y0, y1, y2, y3⟩, ⟨f0, f1, f2, f3⟩, hz⟩ := B3.out.facts
    clear ho3 hb3 hb
    go_wp2_with fail
    refine bodyPost_ret (v := .agg #[.int .u8 s.kind, .int .i64 s.num, .string s.name, .slice A3 s.kids.length c3]) ?_ rfl ⟨A3, c3, rfl, HO.out.1, HO.out.2⟩
    have hc := res_cells (u0 := .int .u8 s.kind) (u1 := .int .i64 s.num) (u2 := .string s.name) (u3 := .slice A3 s.kids.length c3) B3.out.res
    simp [results, Tryd.results17, go_sem, hc]
end Go.Proofs.YtgjanglonccclaaDoor
