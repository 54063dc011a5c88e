/- Contract of the reference's Program (simplify). -/
import Derived.Test.YtgjanglonccclaaDoorPrgS
import Derived.Test.YtgjanglonccclaaDoorRefBlk
namespace Go.Proofs.YtgjanglonccclaaDoor
open Go.RowKit
set_option linter.unusedVariables false
set_option linter.unusedSimpArgs false

theorem sets_below {B : Nat} {w W : World} (hb : Below B w W) {R : Nat} (hR : B ≤ R) (u2 u3 u4 u5 : Value) : Below B w ((((W.setCell ⟨R, 2, none⟩ u2).setCell ⟨R, 3, none⟩ u3).setCell ⟨R, 4, none⟩ u4).setCell ⟨R, 5, none⟩ u5) :=
  Below.setCell (p := ⟨R, 5, none⟩) (Below.setCell (p := ⟨R, 4, none⟩) (Below.setCell (p := ⟨R, 3, none⟩) (Below.setCell (p := ⟨R, 2, none⟩) hb hR _) hR _) hR _) hR _
theorem sets_other {W : World} {R b : Nat} {u2 u3 u4 u5 : Value} (hb : b ≠ R) : ((((W.setCell ⟨R, 2, none⟩ u2).setCell ⟨R, 3, none⟩ u3).setCell ⟨R, 4, none⟩ u4).setCell ⟨R, 5, none⟩ u5).heap[b]? = W.heap[b]? := by
  rw [set_other hb, set_other hb, set_other hb, set_other hb]
theorem PO.start2 {w W0 W1 Wf : World} {p : Prg} {h : GH} {P : Nat} {pm : Node} {mA : Option Addr} {mc : Nat} (B : BoxR w W0 p h) (h1 : Below W0.heap.size W0 W1) (hf : Below W0.heap.size W0 Wf) (hfb : ∀ b, b < W1.heap.size → b ≠ P → Wf.heap[b]? = W1.heap[b]?)
    (hout : Wf.heap[P]? = some (.cells #[.slice h.A p.vars.length h.c, .slice none 0 0, .int .u8 pm.kind, .int .i64 pm.num, .string pm.name, .slice mA pm.kids.length mc] 38)) (hP : W0.heap.size ≤ P)
    (hv : DeclsIn w (fun b => b < w.heap.size) p.vars h.A h.c) (hm : pm.In W1 (fun b => b < w.heap.size ∨ (b ≠ P ∧ W0.heap.size ≤ b)) mA mc) : PO w Wf p h P h.A h.c pm mA mc [] none 0 [] := by
  have hz := B.size
  have X := B.next hf
  have mo : ∀ b, (b < w.heap.size ∨ (b ≠ P ∧ W0.heap.size ≤ b)) → b < W1.heap.size → some b ≠ (Value.slice none ([] : List Prc).length 0).ownBlock ∧ ¬ PX w.heap.size P b := fun b hb _ => ⟨by simp [Value.ownBlock], PX_off (by omega) (by omega)⟩
  refine ⟨X.below, X.size, X.box, X.res, by omega, hout, (hv.below X.below).move (fun _ _ _ => rfl) (fun b hb _ => ⟨by simp [Value.ownBlock], PX_off (by omega) (by omega)⟩), Node.In.move (fun b hb hl => hfb b hl (by omega)) mo _ hm, PP.nil, fun g hg => by simp [Value.ownBlock] at hg⟩

set_option maxHeartbeats 8000000 in
set_option maxRecDepth 100000 in
theorem refProgram_any (p : Prg) (h : GH) (w : World) (ok : Nat → Prop) (hp' : PrgIn w ok p h) (hmb : p.main.isBlock = true) (hpb : ∀ f ∈ p.procs, f.body.isBlock = true) : Calls Tryd.prog 26 #[(.agg #[.slice h.A p.vars.length h.c, .slice h.B p.procs.length h.d, .int .u8 p.main.kind, .int .i64 p.main.num, .string p.main.name, .slice h.C p.main.kids.length h.e])] w (PrgRet w (p.mapB Node.simp)) := by
  have hp : PrgIn w (fun b => b < w.heap.size) p h := hp'.move (fun _ _ _ => rfl) (fun _ _ h => h)
  clear hp' ok
  have B0 := Hd.mk (BoxR.start w p h)
  obtain ⟨hs, hq⟩ := hp.procs
  have HQ := Hd.mk hq
  have HVR := Hd.mk hp.vars
  have HCM := Hd.mk (fun W (hb : Below w.heap.size w W) => refBlk_any hmb h.C h.e W w.heap.size hb.size (hp.main.below hb))
  have HPB := Hd.mk hpb
  have hlp := hq.lenZ
  clear hp hq hmb hpb
  obtain ⟨pm, hpm⟩ : ∃ x, p.main.simp = x := ⟨_, rfl⟩
  rw [hpm] at HCM
  have HRS := Hd.mk (show p.mapB Node.simp = ⟨p.vars, p.procs.map (Prc.mapB Node.simp), pm⟩ by unfold Prg.mapB; rw [hpm])
  clear hpm
  go_enter Tryd.func26, Tryd.ntmps26
  go_wp2_with fail
  obtain ⟨W0, hW0⟩ : ∃ x, x = (w.alloc (.cells #[.slice h.A p.vars.length h.c, .slice h.B p.procs.length h.d, .int .u8 p.main.kind, .int .i64 p.main.num, .string p.main.name, .slice h.C p.main.kids.length h.e] 38)).alloc (.cells #[.slice none 0 0, .slice none 0 0, .int .u8 0, .int .i64 0, .string ⟨#[]⟩, .slice none 0 0] 38) := ⟨_, rfl⟩
  rw [← hW0] at B0 ⊢
  clear hW0
  have HCM := Hd.mk (fun W (hb : Below W0.heap.size W0 W) => HCM.out W (ext_trans B0.out.below hb))
  have KS : Hd (∀ W', Below W0.heap.size W0 W' → (fun W' => W'.cell? ⟨w.heap.size, 0, none⟩ = some (.slice h.A p.vars.length h.c) ∧ W'.cell? ⟨w.heap.size, 1, none⟩ = some (.slice h.B p.procs.length h.d) ∧ W'.cell? ⟨w.heap.size, 2, none⟩ = some (.int .u8 p.main.kind) ∧ W'.cell? ⟨w.heap.size, 3, none⟩ = some (.int .i64 p.main.num) ∧ W'.cell? ⟨w.heap.size, 4, none⟩ = some (.string p.main.name) ∧ W'.cell? ⟨w.heap.size, 5, none⟩ = some (.slice h.C p.main.kids.length h.e)) W') := ⟨fun W' h => six_cells (stands B0.out.box h)⟩
  obtain ⟨x0, x1, x2, x3, x4, x5⟩ := KS.out _ (Below.refl _ _)
  go_cut [3] (fun v3 wx => ∃ (P : Nat) (mA : Option Addr) (mc : Nat), v3 = .pointer (some ⟨P, 0, none⟩) ∧ PO w wx p h P h.A h.c pm mA mc [] none 0 [])
  case first =>
    go_region_held3 (fun W' => W'.cell? ⟨w.heap.size, 0, none⟩ = some (.slice h.A p.vars.length h.c) ∧ W'.cell? ⟨w.heap.size, 1, none⟩ = some (.slice h.B p.procs.length h.d) ∧ W'.cell? ⟨w.heap.size, 2, none⟩ = some (.int .u8 p.main.kind) ∧ W'.cell? ⟨w.heap.size, 3, none⟩ = some (.int .i64 p.main.num) ∧ W'.cell? ⟨w.heap.size, 4, none⟩ = some (.string p.main.name) ∧ W'.cell? ⟨w.heap.size, 5, none⟩ = some (.slice h.C p.main.kids.length h.e)) (((with_reducible apply KS.out); (repeat first | (with_reducible apply Below.refl) | (with_reducible refine six_below ?_ (by omega) _ _ _ _ _ _) | (with_reducible apply Below.drew) | (with_reducible apply ext_alloc) | (with_reducible apply HBC.out)); done)) (first
      | ((fail_if_success have hxx := HB3.out); go_at_call 20; refine (HCM.out _ ?_).mono ?_; (focus ((repeat first | (with_reducible apply Below.refl) | (with_reducible apply Below.drew) | (with_reducible apply ext_alloc) | (with_reducible apply HBC.out)); done)); rintro e w3 ⟨mA, mc, rfl, hb, ho⟩; have HBC := Hd.mk (fun (v : World) (h : Below v.heap.size v _) => ext_trans h hb); have HKC := Hd.mk (fun (p : Nat) (o : Obj) (h : _ = _) => stands (p := p) (o := o) h hb); have s2 := hb.size; have HMR := Hd.mk ho; refine have_then (p := Hd (Below W0.heap.size W0 w3)) ⟨?_⟩ (fun HB3 => ?_); (focus ((repeat first | (with_reducible apply Below.refl) | (with_reducible apply Below.drew) | (with_reducible apply ext_alloc) | (with_reducible apply HBC.out)); done)); obtain ⟨x0, x1, x2, x3, x4, x5⟩ := KS.out _ HB3.out; (try (refine have_then (p := Hd (w3.heap[W0.heap.size]? = some (.cells #[.slice none 0 0, .slice none 0 0, .int .u8 0, .int .i64 0, .string ⟨#[]⟩, .slice none 0 0] 38))) ⟨?_⟩ (fun HP3 => ?_); (focus ((repeat first | ((with_reducible apply blk_top); (first | rfl | (simp; done))) | (with_reducible apply blk_drew) | (with_reducible apply blk_sub) | (with_reducible apply HKC.out)); done)); obtain ⟨p0, p1, p2, p3, p4, p5⟩ := six_cells HP3.out; have f0 := blk_free HP3.out 0; have f1 := blk_free HP3.out 1; have f2 := blk_free HP3.out 2; have f3 := blk_free HP3.out 3; have f4 := blk_free HP3.out 4; have f5 := blk_free HP3.out 5)); clear hb ho))
    all_goals (go_wp2_with fail; go_meet)
    all_goals
      simp at s2
      refine ⟨_, mA, mc, rfl, ?_⟩
      first
        | (have HPq := HP3.out
           refine PO.start2 (W1 := w3) B0.out HB3.out (six_below HB3.out ?_ _ _ _ _ _ _) (fun b _ hb => six_other hb) (six_res HPq) ?_ HVR.out (Node.In.move (fun _ _ _ => rfl) (fun b hb hl => ?_) _ HMR.out))
        | (refine PO.start2 (W1 := w3) B0.out HB3.out (ext_alloc HB3.out _) (fun b hb _ => (Go.MapKept.heap_alloc _ _).2 b hb) (new_block _ _) ?_ HVR.out (Node.In.move (fun _ _ _ => rfl) (fun b hb hl => ?_) _ HMR.out))
    all_goals (first | omega | (simp at hb; omega) | trace_state)
  case rest =>
    obtain ⟨P, mA, mc, rfl, hpo⟩ := hcut
    obtain ⟨x0, x1, x2, x3, x4, x5⟩ := six_cells hpo.box
    obtain ⟨i0, hi, hz0, hz1, hz2⟩ := info_parts infoProc
    have HPO := Hd.mk hpo
    clear hpo KS
    go_wp2_with fail
    go_loopw [4, 5] (fun v4 v5 W => ∃ (j : Nat) (pB : Option Addr) (pd : Nat) (l : List Prc) (hs2 : List PH), v4 = .int .i64 j ∧ j ≤ p.procs.length ∧ Hd (l = (p.procs.take j).map (Prc.mapB Node.simp)) ∧ PO w W p h P h.A h.c pm mA mc l pB pd hs2) (fun v4 _ _ => p.procs.length - (intOf v4).toNat)
    case atStart => exact ⟨0, none, 0, [], [], rfl, Nat.zero_le _, ⟨rfl⟩, HPO.out⟩
    case round =>
      clear x0 x1 x2 x3 x4 x5
      obtain ⟨j, pB, pd, l, hs2, rfl, hj, HA, R⟩ := hrel
      have hal : l.length = j := by rw [HA.out, List.length_map, List.length_take]; omega
      obtain ⟨x0, x1, x2, x3, x4, x5⟩ := six_cells R.box
      by_cases hlt : j < p.procs.length
      · obtain ⟨b, o, g1, hB, ⟨e0, e1, e2, e3, e4, e5⟩, hbl, hpi⟩ := (HQ.out.below R.below).at_ j hlt
        rw [hB] at x1
        have HPI := Hd.mk hpi
        have HM := Hd.mk (show p.procs.take (j + 1) = p.procs.take j ++ [p.procs[j]] from List.take_succ_eq_append_getElem hlt)
        have HR := Hd.mk R
        have HAL := Hd.mk hal
        have hlb : l.length ≤ 1466015503700 := by omega
        have hlc := HQ.out.cap
        have hlb2 : (l.length + 1) * 96 ≤ 140737488355328 := by omega
        have hPw := stands_lt R.out
        have hNr : w.heap.size ≤ wr.heap.size := R.below.size
        have j0 : (0 : Int) ≤ (j : Int) := by omega
        have j1 : (j : Int) < (p.procs.length : Int) := by omega
        have hb8 := ext_alloc (Below.refl wr.heap.size wr) (.cells #[.string p.procs[j].name, .slice g1.A p.procs[j].params.length g1.c, .int .u8 p.procs[j].body.kind, .int .i64 p.procs[j].body.num, .string p.procs[j].body.name, .slice g1.B p.procs[j].body.kids.length g1.d] 55)
        have HX8 := Hd.mk (new_block wr (.cells #[.string p.procs[j].name, .slice g1.A p.procs[j].params.length g1.c, .int .u8 p.procs[j].body.kind, .int .i64 p.procs[j].body.num, .string p.procs[j].body.name, .slice g1.B p.procs[j].body.kids.length g1.d] 55))
        have HB8 := Hd.mk hb8
        have HC8 := Hd.mk (refBlk_any (HPB.out _ (List.getElem_mem hlt)) g1.B g1.d _ w.heap.size (by simp; omega) (hpi.body.below hb8))
        obtain ⟨u, hu⟩ : ∃ u, p.procs[j].body.simp = u := ⟨_, rfl⟩
        rw [hu] at HC8
        have HU := Hd.mk (show Prc.mapB Node.simp p.procs[j] = ⟨p.procs[j].name, p.procs[j].params, u⟩ by unfold Prc.mapB; rw [hu])
        have hPne : P ≠ wr.heap.size := by omega
        have HROW := Hd.mk (fun W (hb : Below wr.heap.size wr W) => (R.procs.below hb).row)
        clear hB hpi R hal hlc hb8 hu
        go_wp2_with fail
        refine HC8.out.mono ?_
        rintro e w1 ⟨A4, c4, rfl, hb, hi4⟩
        have HB1 := Hd.mk (ext_trans HB8.out hb)
        have hkv := stands HX8.out hb
        have hPk := stands HR.out.out HB1.out
        obtain ⟨k0, k1, k2, k3, k4, k5⟩ := six_cells hkv
        have l2 := blk_free hkv 2
        have l3 := blk_free hkv 3
        have l4 := blk_free hkv 4
        have l5 := blk_free hkv 5
        obtain ⟨p0, p1, p2, p3, p4, p5⟩ := six_cells hPk
        have HI4 := Hd.mk hi4
        have hsz1 : wr.heap.size + 1 ≤ w1.heap.size := by have := hb.size; simpa using this
        have HBW := Hd.mk (show Below wr.heap.size wr ((((w1.setCell ⟨wr.heap.size, 2, none⟩ (.int .u8 u.kind)).setCell ⟨wr.heap.size, 3, none⟩ (.int .i64 u.num)).setCell ⟨wr.heap.size, 4, none⟩ (.string u.name)).setCell ⟨wr.heap.size, 5, none⟩ (.slice A4 u.kids.length c4)) from sets_below HB1.out (Nat.le_refl _) _ _ _ _)
        clear hb hi4 hkv hPk
        go_wp2_with (at_builtin; refine wpList_append_own_at _ rfl _ _ 36 rfl 0 55 i0 _ 6 96 Tryd.underlying36 hi hz0 hz1 hz2 rfl (by omega) (.slice pB l.length pd) l.length (prcVals l hs2) rfl (HROW.out _ (ext_alloc HBW.out _)) ⟨w1.heap.size, 0, none⟩ 1 1 [.string p.procs[j].name, .slice g1.A p.procs[j].params.length g1.c, .int .u8 u.kind, .int .i64 u.num, .string u.name, .slice A4 u.kids.length c4] rfl rfl (World.news_of_block (blk_top (by simp [World.setCell]))) (by simp [Value.oneCell']) (by simp [maxLen]; omega) (by omega) (by omega) ?_; intro v' w2 hrow hgr _ hat; obtain ⟨g, cap, rfl, _, _⟩ := hrow.form (by omega); have hpb := (prc_after (HR.out.next HBW.out) (Below.refl _ _) hgr).1; obtain ⟨s0, s1, s2, s3, s4, s5⟩ := six_cells hpb; have t1 := blk_free hpb 1; have HPB := Hd.mk hpb; clear hpb)
        go_roundw
        case rel =>
          refine ⟨j + 1, some ⟨g, 0, none⟩, cap, l ++ [Prc.mapB Node.simp p.procs[j]], _, by go_num, hlt, ⟨?_⟩, HR.out.push (f := Prc.mapB Node.simp p.procs[j]) (g := ⟨g1.A, g1.c, A4, c4⟩) (ext_alloc HBW.out _) ?_ ?_ hgr ?_⟩
          · rw [HM.out, List.map_append, HA.out]; rfl
          · rw [HU.out]
            refine PrcIn.below (w := (((w1.setCell ⟨wr.heap.size, 2, none⟩ (.int .u8 u.kind)).setCell ⟨wr.heap.size, 3, none⟩ (.int .i64 u.num)).setCell ⟨wr.heap.size, 4, none⟩ (.string u.name)).setCell ⟨wr.heap.size, 5, none⟩ (.slice A4 u.kids.length c4)) ?_ (ext_alloc (Below.refl _ _) _)
            refine ⟨HPI.out.name, (HPI.out.params.below HBW.out).move (fun _ _ _ => rfl) (fun b hb _ => .inl hb), Node.In.move (fun b hb _ => sets_other ?_) (fun b hb _ => ?_) _ HI4.out⟩
            · have h1 : b < w.heap.size ∨ (wr.alloc (.cells #[.string p.procs[j].name, .slice g1.A p.procs[j].params.length g1.c, .int .u8 p.procs[j].body.kind, .int .i64 p.procs[j].body.num, .string p.procs[j].body.name, .slice g1.B p.procs[j].body.kids.length g1.d] 55)).heap.size ≤ b := hb
              rw [World.size_alloc] at h1; omega
            · have h1 : b < w.heap.size ∨ (wr.alloc (.cells #[.string p.procs[j].name, .slice g1.A p.procs[j].params.length g1.c, .int .u8 p.procs[j].body.kind, .int .i64 p.procs[j].body.num, .string p.procs[j].body.name, .slice g1.B p.procs[j].body.kids.length g1.d] 55)).heap.size ≤ b := hb
              rw [World.size_alloc] at h1
              show b < w.heap.size ∨ wr.heap.size ≤ b
              omega
          · rw [HU.out]; exact hrow
          · rcases hat with e | e
            · exact .inl e.symm
            · exact .inr (Option.some.inj e)
        case measure => simp [intOf]; omega
      · have : j = p.procs.length := by omega
        subst this
        have HR := Hd.mk R
        have HLE := Hd.mk (show l = p.procs.map (Prc.mapB Node.simp) by rw [HA.out, List.take_length])
        have HLC := Hd.mk (show l.length * 96 ≤ 140737488355328 by rw [hal]; exact HQ.out.cap)
        obtain ⟨p0, p1, p2, p3, p4, p5⟩ := six_cells R.out
        obtain ⟨y0, y1, y2, y3, y4, y5⟩ := six_cells R.res
        have f0 := blk_free R.res 0
        have f1 := blk_free R.res 1
        have f2 := blk_free R.res 2
        have f3 := blk_free R.res 3
        have f4 := blk_free R.res 4
        have f5 := blk_free R.res 5
        clear R hal
        go_wp2_with fail
        have hfin := HR.out.fin HLC.out (.slice h.A p.vars.length h.c) (.slice pB l.length pd) (.int .u8 pm.kind) (.int .i64 pm.num) (.string pm.name) (.slice mA pm.kids.length mc)
        have e : p.mapB Node.simp = ⟨p.vars, l, pm⟩ := by rw [HRS.out, HLE.out]
        rw [e]
        refine bodyPost_ret (v := (.agg #[.slice (⟨h.A, h.c, pB, pd, mA, mc⟩ : GH).A (⟨p.vars, l, pm⟩ : Prg).vars.length (⟨h.A, h.c, pB, pd, mA, mc⟩ : GH).c, .slice (⟨h.A, h.c, pB, pd, mA, mc⟩ : GH).B (⟨p.vars, l, pm⟩ : Prg).procs.length (⟨h.A, h.c, pB, pd, mA, mc⟩ : GH).d, .int .u8 (⟨p.vars, l, pm⟩ : Prg).main.kind, .int .i64 (⟨p.vars, l, pm⟩ : Prg).main.num, .string (⟨p.vars, l, pm⟩ : Prg).main.name, .slice (⟨h.A, h.c, pB, pd, mA, mc⟩ : GH).C (⟨p.vars, l, pm⟩ : Prg).main.kids.length (⟨h.A, h.c, pB, pd, mA, mc⟩ : GH).e])) ?_ rfl ⟨⟨h.A, h.c, pB, pd, mA, mc⟩, rfl, hfin.1, hfin.2⟩
        have hc := six_cells (six_res (u0 := .slice h.A p.vars.length h.c) (u1 := .slice pB l.length pd) (u2 := .int .u8 pm.kind) (u3 := .int .i64 pm.num) (u4 := .string pm.name) (u5 := .slice mA pm.kids.length mc) HR.out.res)
        simp [results, Tryd.results26, go_sem, hc]
/-- Of a valid program the two simplified forms are one. -/
theorem validB_blocks {p : Prg} (h : p.validB = true) : p.main.isBlock = true ∧ ∀ f ∈ p.procs, f.body.isBlock = true := by
  unfold Prg.validB at h
  simp only [Bool.and_eq_true, List.all_eq_true] at h
  refine ⟨?_, fun f hf => ?_⟩
  · have := h.1.2.2
    unfold Node.bodyB at this
    simp only [Bool.and_eq_true] at this
    exact this.1
  · have := h.2 f hf
    unfold Prc.okB Node.bodyB at this
    simp only [Bool.and_eq_true] at this
    exact this.2.2.1
theorem mapB_valid {p : Prg} (h : p.validB = true) : p.mapB p.of = p.mapB Node.simp := by
  have hb := validB_blocks h
  have hof : p.of = blockB := by unfold Prg.of; rw [h]; rfl
  rw [hof]
  unfold Prg.mapB
  congr 1
  · refine List.map_congr_left (fun f hf => ?_)
    unfold Prc.mapB
    rw [blockB_eq, if_pos (hb.2 f hf)]
  · rw [blockB_eq, if_pos hb.1]
theorem mapB_invalid {p : Prg} (h : p.validB = false) : p.mapB p.of = p := by
  have hof : p.of = id := by unfold Prg.of; rw [h]; rfl
  rw [hof]
  unfold Prg.mapB
  have : p.procs.map (Prc.mapB id) = p.procs := by
    have : Prc.mapB id = id := by funext f; rfl
    rw [this, List.map_id]
  rw [this]; rfl
end Go.Proofs.YtgjanglonccclaaDoor
