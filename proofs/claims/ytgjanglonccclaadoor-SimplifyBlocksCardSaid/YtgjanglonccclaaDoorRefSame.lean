/- Contract of the reference's Same, at two places that hold one program. -/
import Derived.Test.YtgjanglonccclaaDoorPrgV
import Derived.Test.YtgjanglonccclaaDoorBC
import Derived.Deep.QuietTactic
import Derived.BigQuiet
import Derived.Deep.RegionHeld3
import Derived.Deep.DeepCutAuto
namespace Go.Proofs.YtgjanglonccclaaDoor
open Go.RowKit
set_option linter.unusedVariables false
set_option linter.unusedSimpArgs false

/-- Two boxed programs. -/
structure BoxPP (w W : World) (p : Prg) (h : GH) (q : Prg) (g : GH) : Prop where
  below : Below w.heap.size w W
  size : w.heap.size + 2 ≤ W.heap.size
  box : W.heap[w.heap.size]? = some (.cells #[.slice h.A p.vars.length h.c, .slice h.B p.procs.length h.d, .int .u8 p.main.kind, .int .i64 p.main.num, .string p.main.name, .slice h.C p.main.kids.length h.e] 38)
  box2 : W.heap[w.heap.size + 1]? = some (.cells #[.slice g.A q.vars.length g.c, .slice g.B q.procs.length g.d, .int .u8 q.main.kind, .int .i64 q.main.num, .string q.main.name, .slice g.C q.main.kids.length g.e] 38)
theorem BoxPP.start (w : World) (p : Prg) (h : GH) (q : Prg) (g : GH) : BoxPP w ((w.alloc (.cells #[.slice h.A p.vars.length h.c, .slice h.B p.procs.length h.d, .int .u8 p.main.kind, .int .i64 p.main.num, .string p.main.name, .slice h.C p.main.kids.length h.e] 38)).alloc (.cells #[.slice g.A q.vars.length g.c, .slice g.B q.procs.length g.d, .int .u8 q.main.kind, .int .i64 q.main.num, .string q.main.name, .slice g.C q.main.kids.length g.e] 38)) p h q g :=
  ⟨ext_alloc (ext_alloc (Below.refl _ _) _) _, by simp, blk_sub (new_block _ _), blk_top (by simp)⟩
theorem BoxPP.next {w W W2 : World} {p : Prg} {h : GH} {q : Prg} {g : GH} (X : BoxPP w W p h q g) (hb : Below W.heap.size W W2) : BoxPP w W2 p h q g :=
  ⟨ext_trans X.below hb, Nat.le_trans X.size hb.size, stands X.box hb, stands X.box2 hb⟩
theorem BoxPP.facts {w W : World} {p : Prg} {h : GH} {q : Prg} {g : GH} (X : BoxPP w W p h q g) :
    (W.cell? ⟨w.heap.size, 0, none⟩ = some (.slice h.A p.vars.length h.c) ∧ W.cell? ⟨w.heap.size, 1, none⟩ = some (.slice h.B p.procs.length h.d) ∧ W.cell? ⟨w.heap.size, 2, none⟩ = some (.int .u8 p.main.kind) ∧ W.cell? ⟨w.heap.size, 3, none⟩ = some (.int .i64 p.main.num) ∧
      W.cell? ⟨w.heap.size, 4, none⟩ = some (.string p.main.name) ∧ W.cell? ⟨w.heap.size, 5, none⟩ = some (.slice h.C p.main.kids.length h.e)) ∧
    (W.cell? ⟨w.heap.size + 1, 0, none⟩ = some (.slice g.A q.vars.length g.c) ∧ W.cell? ⟨w.heap.size + 1, 1, none⟩ = some (.slice g.B q.procs.length g.d) ∧ W.cell? ⟨w.heap.size + 1, 2, none⟩ = some (.int .u8 q.main.kind) ∧ W.cell? ⟨w.heap.size + 1, 3, none⟩ = some (.int .i64 q.main.num) ∧
      W.cell? ⟨w.heap.size + 1, 4, none⟩ = some (.string q.main.name) ∧ W.cell? ⟨w.heap.size + 1, 5, none⟩ = some (.slice g.C q.main.kids.length g.e)) ∧ w.heap.size + 1 < W.heap.size := ⟨six_cells X.box, six_cells X.box2, X.size⟩

/-- The cells of a boxed procedure. -/
def SixAt (W : World) (P : Nat) (f : Prc) (g : PH) : Prop :=
  W.cell? ⟨P, 0, none⟩ = some (.string f.name) ∧ W.cell? ⟨P, 1, none⟩ = some (.slice g.A f.params.length g.c) ∧ W.cell? ⟨P, 2, none⟩ = some (.int .u8 f.body.kind) ∧ W.cell? ⟨P, 3, none⟩ = some (.int .i64 f.body.num) ∧ W.cell? ⟨P, 4, none⟩ = some (.string f.body.name) ∧ W.cell? ⟨P, 5, none⟩ = some (.slice g.B f.body.kids.length g.d)
theorem SixAt.of {W : World} {P : Nat} {f : Prc} {g : PH} (h : W.heap[P]? = some (.cells #[.string f.name, .slice g.A f.params.length g.c, .int .u8 f.body.kind, .int .i64 f.body.num, .string f.body.name, .slice g.B f.body.kids.length g.d] 55)) : SixAt W P f g := six_cells h
theorem SixAt.below {W W2 : World} {P : Nat} {f : Prc} {g : PH} (h : SixAt W P f g) (hb : Below W.heap.size W W2) : SixAt W2 P f g := by
  obtain ⟨h0, h1, h2, h3, h4, h5⟩ := h
  have hl := World.block_lt_of_cell? _ _ h0
  have e : ∀ i, W2.cell? ⟨P, i, none⟩ = W.cell? ⟨P, i, none⟩ := fun i => hb.cell (p := ⟨P, i, none⟩) hl
  exact ⟨by rw [e]; exact h0, by rw [e]; exact h1, by rw [e]; exact h2, by rw [e]; exact h3, by rw [e]; exact h4, by rw [e]; exact h5⟩

set_option maxHeartbeats 4000000 in
set_option maxRecDepth 100000 in
theorem refSame_any (p : Prg) (h g : GH) (w : World) (ok ok' : Nat → Prop) (hp : PrgIn w ok p h) (hq : PrgIn w ok' p g) :
    Calls Tryd.prog 24 #[(.agg #[.slice h.A p.vars.length h.c, .slice h.B p.procs.length h.d, .int .u8 p.main.kind, .int .i64 p.main.num, .string p.main.name, .slice h.C p.main.kids.length h.e]), (.agg #[.slice g.A p.vars.length g.c, .slice g.B p.procs.length g.d, .int .u8 p.main.kind, .int .i64 p.main.num, .string p.main.name, .slice g.C p.main.kids.length g.e])] w fun e w' => e = .returned (.bool true) ∧ Below w.heap.size w w' := by
  have B0 := Hd.mk (BoxPP.start w p h p g)
  have HP := Hd.mk hp
  have HQ := Hd.mk hq
  have hlv := hp.vars.lenZ
  obtain ⟨hs, hps⟩ := hp.procs
  obtain ⟨gs, hqs⟩ := hq.procs
  have hlp := hps.lenZ
  have HPS := Hd.mk hps
  have HQS := Hd.mk hqs
  have HE := Hd.mk (fun W (hb : Below w.heap.size w W) => (eqB_refl p.main) ▸ refEqual_any p.main p.main h.C g.C h.e g.e W _ _ (hp.main.below hb) (hq.main.below hb))
  clear hp hq hps hqs
  go_enter Tryd.func24, Tryd.ntmps24
  go_wp2_with fail
  refine (HE.out _ B0.out.below).mono ?_
  rintro e w1 ⟨rfl, hb1⟩
  have B1 := Hd.mk (B0.out.next hb1)
  clear hb1
  obtain ⟨⟨x0, x1, x2, x3, x4, x5⟩, ⟨y0, y1, y2, y3, y4, y5⟩, hz⟩ := B1.out.facts
  go_wp2_with fail
  go_loopw [5] (fun v5 W => ∃ j : Nat, j ≤ p.vars.length ∧ v5 = .int .i64 j ∧ Below w1.heap.size w1 W) (fun v5 _ => p.vars.length - (intOf v5).toNat)
  case atStart => exact ⟨0, Nat.zero_le _, rfl, Below.refl _ _⟩
  case round =>
    obtain ⟨j, hj, rfl, HB⟩ := hrel
    have Br := B1.out.next HB
    clear x0 x1 x2 x3 x4 x5 y0 y1 y2 y3 y4 y5
    obtain ⟨⟨x0, x1, x2, x3, x4, x5⟩, ⟨y0, y1, y2, y3, y4, y5⟩, hz2⟩ := Br.facts
    by_cases hlt : j < p.vars.length
    · obtain ⟨b, o, hA, e0, e1, e2, _⟩ := (HP.out.vars.below Br.below).at_ j hlt
      obtain ⟨b2, o2, hA2, d0, d1, d2, _⟩ := (HQ.out.vars.below Br.below).at_ j hlt
      rw [hA] at x0
      rw [hA2] at y0
      have HBR := Hd.mk Br
      have HHB := Hd.mk HB
      have j0 : (0 : Int) ≤ (j : Int) := by omega
      have j1 : (j : Int) < (p.vars.length : Int) := by omega
      clear hA hA2 Br HB
      go_wp2_with fail
      go_quiet (fail)
      go_wp2_with fail
      go_roundw
      case rel => exact ⟨j + 1, hlt, by go_num, ext_drewN HHB.out _⟩
      case measure => simp [intOf]; omega
    · have HBR := Hd.mk Br
      have HHB := Hd.mk HB
      clear Br HB
      go_wp2_with fail
      go_loopw [6, 7, 8, 9] (fun v6 v7 v8 v9 W => ∃ k : Nat, k ≤ p.procs.length ∧ v6 = .int .i64 k ∧ Below w1.heap.size w1 W) (fun v6 _ _ _ _ => p.procs.length - (intOf v6).toNat)
      case atStart => exact ⟨0, Nat.zero_le _, rfl, HHB.out⟩
      case round =>
        clear x0 x1 x2 x3 x4 x5 y0 y1 y2 y3 y4 y5 hlt hj HHB HBR
        obtain ⟨k, hk, rfl, HB⟩ := hrel
        have Br := B1.out.next HB
        obtain ⟨⟨x0, x1, x2, x3, x4, x5⟩, ⟨y0, y1, y2, y3, y4, y5⟩, hz3⟩ := Br.facts
        have HBR := Hd.mk Br
        have HHB := Hd.mk HB
        by_cases hlt : k < p.procs.length
        · obtain ⟨b, o, g1, hA, ⟨e0, e1, e2, e3, e4, e5⟩, hbl, hpi⟩ := (HPS.out.below Br.below).at_ k hlt
          obtain ⟨b2, o2, g2, hA2, ⟨d0, d1, d2, d3, d4, d5⟩, hbl2, hqi⟩ := (HQS.out.below Br.below).at_ k hlt
          rw [hA] at x1
          rw [hA2] at y1
          have HPI := Hd.mk hpi
          have HQI := Hd.mk hqi
          have j0 : (0 : Int) ≤ (k : Int) := by omega
          have j1 : (k : Int) < (p.procs.length : Int) := by omega
          clear hA hA2 Br HB hpi hqi x0 x2 x3 x4 x5 y0 y2 y3 y4 y5
          go_wp2_with fail
          go_cut [7, 8] (fun v7 v8 wx => ∃ P Q, v7 = .pointer (some ⟨P, 0, none⟩) ∧ v8 = .pointer (some ⟨Q, 0, none⟩) ∧ Below wr.heap.size wr wx ∧ SixAt wx P p.procs[k] g1 ∧ SixAt wx Q p.procs[k] g2)
          case first =>
            go_region_held3 (fun W' => (W'.cell? ⟨w.heap.size, 1, none⟩ = some (.slice (some ⟨b, o, none⟩) p.procs.length h.d) ∧ W'.cell? ⟨w.heap.size + 1, 1, none⟩ = some (.slice (some ⟨b2, o2, none⟩) p.procs.length g.d)) ∧
              (W'.cell? ⟨b, o + k * 6, none⟩ = some (.string p.procs[k].name) ∧ W'.cell? ⟨b, o + k * 6 + 1, none⟩ = some (.slice g1.A p.procs[k].params.length g1.c) ∧ W'.cell? ⟨b, o + k * 6 + 2, none⟩ = some (.int .u8 p.procs[k].body.kind) ∧ W'.cell? ⟨b, o + k * 6 + 3, none⟩ = some (.int .i64 p.procs[k].body.num) ∧ W'.cell? ⟨b, o + k * 6 + 4, none⟩ = some (.string p.procs[k].body.name) ∧ W'.cell? ⟨b, o + k * 6 + 5, none⟩ = some (.slice g1.B p.procs[k].body.kids.length g1.d)) ∧
              (W'.cell? ⟨b2, o2 + k * 6, none⟩ = some (.string p.procs[k].name) ∧ W'.cell? ⟨b2, o2 + k * 6 + 1, none⟩ = some (.slice g2.A p.procs[k].params.length g2.c) ∧ W'.cell? ⟨b2, o2 + k * 6 + 2, none⟩ = some (.int .u8 p.procs[k].body.kind) ∧ W'.cell? ⟨b2, o2 + k * 6 + 3, none⟩ = some (.int .i64 p.procs[k].body.num) ∧ W'.cell? ⟨b2, o2 + k * 6 + 4, none⟩ = some (.string p.procs[k].body.name) ∧ W'.cell? ⟨b2, o2 + k * 6 + 5, none⟩ = some (.slice g2.B p.procs[k].body.kids.length g2.d)))
              (go_keep) (fail)
            all_goals (go_wp2_with fail; go_meet)
            all_goals
              refine ⟨_, _, rfl, rfl, ?_, SixAt.of ?_, SixAt.of ?_⟩
              · repeat first | exact Below.refl _ _ | refine Below.drew ?_ | refine ext_alloc ?_ _
              · repeat first | ((with_reducible refine blk_top ?_); (first | rfl | (simp; done))) | (with_reducible refine blk_drew ?_) | (with_reducible refine blk_sub ?_)
              · repeat first | ((with_reducible refine blk_top ?_); (first | rfl | (simp; done))) | (with_reducible refine blk_drew ?_) | (with_reducible refine blk_sub ?_)
          case rest =>
            obtain ⟨P, Q, rfl, rfl, hbx, hP, hQ⟩ := hcut
            have HBX := Hd.mk hbx
            have HP1 := Hd.mk hP
            have HQ1 := Hd.mk hQ
            have HEb := Hd.mk ((eqB_refl p.procs[k].body) ▸ refEqual_any p.procs[k].body p.procs[k].body g1.B g2.B g1.d g2.d _ _ _ (HPI.out.body.below hbx) (HQI.out.body.below hbx))
            obtain ⟨a0, a1, a2, a3, a4, a5⟩ := hP
            obtain ⟨c0, c1, c2, c3, c4, c5⟩ := hQ
            clear hbx x1 y1 e0 e1 e2 e3 e4 e5 d0 d1 d2 d3 d4 d5
            go_wp2_with fail
            refine HEb.out.mono ?_
            rintro e w2 ⟨rfl, hb2⟩
            have HBY := Hd.mk (ext_trans HBX.out hb2)
            have HP2 := Hd.mk (HP1.out.below hb2)
            have HQ2 := Hd.mk (HQ1.out.below hb2)
            clear hb2 a0 a1 a2 a3 a4 a5 c0 c1 c2 c3 c4 c5
            obtain ⟨a0, a1, a2, a3, a4, a5⟩ := HP2.out
            obtain ⟨c0, c1, c2, c3, c4, c5⟩ := HQ2.out
            go_wp2_with fail
            go_loopw [9] (fun v9 W => ∃ j : Nat, j ≤ p.procs[k].params.length ∧ v9 = .int .i64 j ∧ Below w2.heap.size w2 W) (fun v9 _ => p.procs[k].params.length - (intOf v9).toNat)
            case atStart => exact ⟨0, Nat.zero_le _, rfl, Below.refl _ _⟩
            case round =>
              clear a0 a1 a2 a3 a4 a5 c0 c1 c2 c3 c4 c5
              obtain ⟨j, hj, rfl, HBj⟩ := hrel
              obtain ⟨a0, a1, a2, a3, a4, a5⟩ := HP2.out.below HBj
              obtain ⟨c0, c1, c2, c3, c4, c5⟩ := HQ2.out.below HBj
              have HHJ := Hd.mk (ext_trans HBY.out HBj)
              have HJ := Hd.mk HBj
              have hlz := HPI.out.params.lenZ
              by_cases hlt2 : j < p.procs[k].params.length
              · obtain ⟨b, o, hA, e0, e1, e2, _⟩ := (HPI.out.params.below HHJ.out).at_ j hlt2
                obtain ⟨b2, o2, hA2, d0, d1, d2, _⟩ := (HQI.out.params.below HHJ.out).at_ j hlt2
                rw [hA] at a1
                rw [hA2] at c1
                have j0 : (0 : Int) ≤ (j : Int) := by omega
                have j1 : (j : Int) < (p.procs[k].params.length : Int) := by omega
                clear hA hA2 HBj
                go_wp2_with fail
                go_quiet (fail)
                go_wp2_with fail
                go_roundw
                case rel => exact ⟨j + 1, hlt2, by go_num, ext_drewN HJ.out _⟩
                case measure => simp [intOf]; omega
              · clear HBj
                go_wp2_with fail
                go_roundw
                case rel => exact ⟨k + 1, hlt, by go_num, ext_trans HHB.out HHJ.out⟩
                case measure => simp [intOf]; omega
        · clear HB Br
          go_wp2_with fail
          go_ret
          exact ⟨rfl, HBR.out.below⟩
end Go.Proofs.YtgjanglonccclaaDoor
