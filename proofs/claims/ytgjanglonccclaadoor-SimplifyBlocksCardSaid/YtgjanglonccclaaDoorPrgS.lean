/- Contract of simplify.Program. -/
import Derived.Test.YtgjanglonccclaaDoorPrcRow
import Derived.Test.YtgjanglonccclaaDoorBB
import Derived.Test.YtgjanglonccclaaDoorHeldL
import Derived.Deep.RegionHeld3
import Derived.Deep.DeepCutAuto
namespace Go.Proofs.YtgjanglonccclaaDoor
open Go.RowKit
set_option linter.unusedVariables false
set_option linter.unusedSimpArgs false

/-- A program with other bodies. -/
def Prc.mapB (φ : Node → Node) (f : Prc) : Prc := ⟨f.name, f.params, φ f.body⟩
def Prg.mapB (φ : Node → Node) (p : Prg) : Prg := ⟨p.vars, p.procs.map (Prc.mapB φ), φ p.main⟩
def OfRuns (fn : FuncId) (φ : Node → Node) : Prop := ∀ (t : Node) (A : Option Addr) (c : Nat) (W : World) (ok : Nat → Prop), Good W → t.In W ok A c → Calls Tryd.prog fn #[.agg #[.int .u8 t.kind, .int .i64 t.num, .string t.name, .slice A t.kids.length c]] W (Fresh W (φ t))
def Prg.of (p : Prg) : Node → Node := if p.validB then blockB else id
def PrgRet (w : World) (p : Prg) (e : Ending) (w' : World) : Prop := ∃ g : GH, e = .returned (.agg #[.slice g.A p.vars.length g.c, .slice g.B p.procs.length g.d, .int .u8 p.main.kind, .int .i64 p.main.num, .string p.main.name, .slice g.C p.main.kids.length g.e]) ∧ Below w.heap.size w w' ∧ PrgIn w' (fun _ => True) p g
theorem goes_Block : Goes 17 := goes_of Tryd.func17 (by kernel_rfl) rfl
theorem goes_Clone : Goes 21 := goes_of Tryd.func21 (by kernel_rfl) rfl
theorem of_yes {p : Prg} (h : p.validB = true) : OfRuns 17 p.of := by
  unfold Prg.of; rw [h]; exact fun t A c W ok hw ht => Block_any t A c W ok hw ht
theorem of_no {p : Prg} (h : p.validB = false) : OfRuns 21 p.of := by
  unfold Prg.of; rw [h]; exact fun t A c W ok _ ht => clone_any t A c W ok ht
def OfPack (w : World) (φ : Node → Node) (v : Value) (wx : World) : Prop := ∃ fn, v = .func (.func fn) #[] #[] ∧ Goes fn ∧ OfRuns fn φ ∧ Below w.heap.size w wx

/-- The parameter's block and the result's. -/
structure BoxR (w W : World) (p : Prg) (h : GH) : Prop where
  below : Below w.heap.size w W
  size : w.heap.size + 2 ≤ W.heap.size
  box : W.heap[w.heap.size]? = some (.cells #[.slice h.A p.vars.length h.c, .slice h.B p.procs.length h.d, .int .u8 p.main.kind, .int .i64 p.main.num, .string p.main.name, .slice h.C p.main.kids.length h.e] 38)
  res : W.heap[w.heap.size + 1]? = some (.cells #[.slice none 0 0, .slice none 0 0, .int .u8 0, .int .i64 0, .string ⟨#[]⟩, .slice none 0 0] 38)
theorem BoxR.start (w : World) (p : Prg) (h : GH) : BoxR w ((w.alloc (.cells #[.slice h.A p.vars.length h.c, .slice h.B p.procs.length h.d, .int .u8 p.main.kind, .int .i64 p.main.num, .string p.main.name, .slice h.C p.main.kids.length h.e] 38)).alloc (.cells #[.slice none 0 0, .slice none 0 0, .int .u8 0, .int .i64 0, .string ⟨#[]⟩, .slice none 0 0] 38)) p h :=
  ⟨ext_alloc (ext_alloc (Below.refl _ _) _) _, by simp, blk_sub (new_block _ _), blk_top (by simp)⟩
theorem BoxR.next {w W W2 : World} {p : Prg} {h : GH} (X : BoxR w W p h) (hb : Below W.heap.size W W2) : BoxR w W2 p h := ⟨ext_trans X.below hb, Nat.le_trans X.size hb.size, stands X.box hb, stands X.res hb⟩
theorem PO.start {w W0 W1 Wf : World} {p : Prg} {h : GH} {P : Nat} {vA : Option Addr} {vc : Nat} {pm : Node} {mA : Option Addr} {mc : Nat} (B : BoxR w W0 p h) (h1 : Below W0.heap.size W0 W1) (hf : Below W0.heap.size W0 Wf) (hfb : ∀ b, b < W1.heap.size → b ≠ P → Wf.heap[b]? = W1.heap[b]?)
    (hout : Wf.heap[P]? = some (.cells #[.slice vA p.vars.length vc, .slice none 0 0, .int .u8 pm.kind, .int .i64 pm.num, .string pm.name, .slice mA pm.kids.length mc] 38)) (hP : W0.heap.size ≤ P)
    (hv : DeclsIn W1 (fun b => b ≠ P ∧ W0.heap.size ≤ b) p.vars vA vc) (hm : pm.In W1 (fun b => b ≠ P ∧ W0.heap.size ≤ b) mA mc) : PO w Wf p h P vA vc pm mA mc [] none 0 [] := by
  have hz := B.size
  have X := B.next hf
  have mv : ∀ b, (b ≠ P ∧ W0.heap.size ≤ b) → b < W1.heap.size → Wf.heap[b]? = W1.heap[b]? := fun b hb hl => hfb b hl hb.1
  have mo : ∀ b, (b ≠ P ∧ W0.heap.size ≤ b) → b < W1.heap.size → some b ≠ (Value.slice none ([] : List Prc).length 0).ownBlock ∧ ¬ PX w.heap.size P b := fun b hb _ => ⟨by simp [Value.ownBlock], PX_off hb.1 (by omega)⟩
  exact ⟨X.below, X.size, X.box, X.res, by omega, hout, hv.move mv mo, Node.In.move mv mo _ hm, PP.nil, fun g hg => by simp [Value.ownBlock] at hg⟩

theorem cell_one {w : World} {g : Nat} {v0 v1 v2 v3 v4 v5 : Value} {t : TypeId} (h : w.heap[g]? = some (.cells #[v0, v1, v2, v3, v4, v5] t)) : w.cell? ⟨g, 1, none⟩ = some v1 := cell_blk h 1
theorem blk_set {w : World} {b P : Nat} {o : Obj} (hne : b ≠ P) (h : w.heap[b]? = some o) (i : Nat) (v : Value) : (w.setCell ⟨P, i, none⟩ v).heap[b]? = some o := by rw [set_other hne]; exact h
theorem prc_after {w W8 w3 w5 : World} {p : Prg} {h : GH} {P : Nat} {vA : Option Addr} {vc : Nat} {pm : Node} {mA : Option Addr} {mc : Nat} {l : List Prc} {pB : Option Addr} {pd : Nat} {hs : List PH} {o : Obj} (R : PO w W8 p h P vA vc pm mA mc l pB pd hs) (hb : Below W8.heap.size W8 w3) (hgr : (w3.alloc o).grownBy w5 (Value.slice pB l.length pd).ownBlock) :
    w5.heap[P]? = some (.cells #[.slice vA p.vars.length vc, .slice pB l.length pd, .int .u8 pm.kind, .int .i64 pm.num, .string pm.name, .slice mA pm.kids.length mc] 38) ∧ ∀ F x, W8.heap[F]? = some x → some F ≠ (Value.slice pB l.length pd).ownBlock → w5.heap[F]? = some x := by
  have key : ∀ F x, W8.heap[F]? = some x → some F ≠ (Value.slice pB l.length pd).ownBlock → w5.heap[F]? = some x := fun F x hF hn => block_after hgr (stands hF hb) hn
  exact ⟨key _ _ R.out (fun e => R.procs.mine P e.symm (.inl rfl)), key⟩

set_option maxHeartbeats 8000000 in
set_option maxRecDepth 100000 in
theorem program_any (p : Prg) (h : GH) (w : World) (ok : Nat → Prop) (hw : Good w) (hp' : PrgIn w ok p h) : Calls Tryd.prog 22 #[(.agg #[.slice h.A p.vars.length h.c, .slice h.B p.procs.length h.d, .int .u8 p.main.kind, .int .i64 p.main.num, .string p.main.name, .slice h.C p.main.kids.length h.e])] w (PrgRet w (p.mapB p.of)) := by
  have hp : PrgIn w (fun b => b < w.heap.size) p h := hp'.move (fun _ _ _ => rfl) (fun _ _ h => h)
  clear hp' ok
  have B0 := Hd.mk (BoxR.start w p h)
  obtain ⟨hs, hq⟩ := hp.procs
  have HV := Hd.mk (fun W (hb : Below w.heap.size w W) => valid_any p h W _ (hw.below hb) (hp.below hb))
  have HQ := Hd.mk hq
  have HVR := Hd.mk hp.vars
  have HMN := Hd.mk hp.main
  have HW := Hd.mk hw
  have hlp := hq.lenZ
  have hlv := hp.vars.lenZ
  have HOY := Hd.mk (of_yes (p := p))
  have HON := Hd.mk (of_no (p := p))
  clear hp hw hq
  go_enter Tryd.func22, Tryd.ntmps22
  go_wp2_with fail
  refine (HV.out _ B0.out.below).mono ?_
  rintro e w1 ⟨rfl, hb1⟩
  have B1 := Hd.mk (B0.out.next hb1)
  clear hb1
  go_upto_if 9 with (fail)
  go_cut [3] (fun v3 wx => OfPack w1 p.of v3 wx)
  case first =>
    cases hv : p.validB
    · have HO := Hd.mk (HON.out hv)
      clear hv
      go_wp2_with fail
      go_meet
      exact ⟨_, rfl, goes_Clone, HO.out, Below.refl _ _⟩
    · have HO := Hd.mk (HOY.out hv)
      clear hv
      go_wp2_with fail
      go_meet
      exact ⟨_, rfl, goes_Block, HO.out, Below.refl _ _⟩
  case rest =>
    obtain ⟨fn, rfl, hgo, hof, hbx⟩ := hcut
    have B2 := Hd.mk (B1.out.next hbx)
    unfold OfRuns at hof
    have HOF := Hd.mk hof
    unfold Goes at hgo
    clear hbx hof
    obtain ⟨d0, hd, hdz0, hdz1, hdz2⟩ := info_parts infoDecl
    generalize wc = W0 at B2
    have HM2 := Hd.mk (HMN.out.below B2.out.below)
    have HVC := Hd.mk ((HVR.out.below B2.out.below).row.move (ok' := fun _ => True) (fun _ _ _ => rfl) (fun _ _ _ => trivial))
    have HVF := Hd.mk HVR.out.fits
    have HVL := Hd.mk (declVals_length p.vars)
    have HVM : Hd (p.vars.length ≤ maxLen ∧ p.vars.length * 32 ≤ 140737488355328) := ⟨by simp only [maxLen]; omega, HVR.out.cap⟩
    have KS : Hd (∀ W', Below W0.heap.size W0 W' → (fun W' => W'.cell? ⟨w.heap.size, 0, none⟩ = some (.slice h.A p.vars.length h.c) ∧ W'.cell? ⟨w.heap.size, 1, none⟩ = some (.slice h.B p.procs.length h.d) ∧ W'.cell? ⟨w.heap.size, 2, none⟩ = some (.int .u8 p.main.kind) ∧ W'.cell? ⟨w.heap.size, 3, none⟩ = some (.int .i64 p.main.num) ∧ W'.cell? ⟨w.heap.size, 4, none⟩ = some (.string p.main.name) ∧ W'.cell? ⟨w.heap.size, 5, none⟩ = some (.slice h.C p.main.kids.length h.e)) W') := ⟨fun W' h => six_cells (stands B2.out.box h)⟩
    obtain ⟨x0, x1, x2, x3, x4, x5⟩ := KS.out _ (Below.refl _ _)
    go_upto_region 4 with fail
    go_cut [4] (fun v4 wx => ∃ (P : Nat) (vA : Option Addr) (vc : Nat) (mA : Option Addr) (mc : Nat), v4 = .pointer (some ⟨P, 0, none⟩) ∧ PO w wx p h P vA vc (p.of p.main) mA mc [] none 0 [])
    case first =>
      go_region_held3 (fun W' => W'.cell? ⟨w.heap.size, 0, none⟩ = some (.slice h.A p.vars.length h.c) ∧ W'.cell? ⟨w.heap.size, 1, none⟩ = some (.slice h.B p.procs.length h.d) ∧ W'.cell? ⟨w.heap.size, 2, none⟩ = some (.int .u8 p.main.kind) ∧ W'.cell? ⟨w.heap.size, 3, none⟩ = some (.int .i64 p.main.num) ∧ W'.cell? ⟨w.heap.size, 4, none⟩ = some (.string p.main.name) ∧ W'.cell? ⟨w.heap.size, 5, none⟩ = some (.slice h.C p.main.kids.length h.e)) (((with_reducible apply KS.out); (repeat first | (with_reducible apply Below.refl) | ((with_reducible refine six_below ?_ (by omega) _ _ _ _ _ _)) | (with_reducible apply Below.drew) | (with_reducible apply ext_alloc) | (with_reducible apply HBC.out) | (with_reducible apply HBA.out)); done)) (first
        | ((fail_if_success have hxx := HB3.out); (with_reducible refine (HOF.out p.main h.C h.e _ (fun b => b < w.heap.size) ?_ ?_).mono ?_); (focus ((refine HW.out.below (ext_trans B2.out.below ?_)); (repeat first | (with_reducible apply Below.refl) | (with_reducible apply Below.drew) | (with_reducible apply ext_alloc) | (with_reducible apply HBC.out) | (with_reducible apply HBA.out)); done)); (focus ((refine HM2.out.below ?_); (repeat first | (with_reducible apply Below.refl) | (with_reducible apply Below.drew) | (with_reducible apply ext_alloc) | (with_reducible apply HBC.out) | (with_reducible apply HBA.out)); done)); rintro e w3 ⟨mA, mc, rfl, hb, ho⟩; have HBC := Hd.mk (fun (v : World) (h : Below v.heap.size v _) => ext_trans h hb); have HKC := Hd.mk (fun (p : Nat) (o : Obj) (h : _ = _) => stands (p := p) (o := o) h hb); have s2 := hb.size; have HMR := Hd.mk (ho.reads _); refine have_then (p := Hd (Below W0.heap.size W0 w3)) ⟨?_⟩ (fun HB3 => ?_); (focus ((repeat first | (with_reducible apply Below.refl) | (with_reducible apply Below.drew) | (with_reducible apply ext_alloc) | (with_reducible apply HBC.out) | (with_reducible apply HBA.out)); done)); obtain ⟨x0, x1, x2, x3, x4, x5⟩ := KS.out _ HB3.out; (try (refine have_then (p := Hd (w3.heap[W0.heap.size]? = some (.cells #[.slice none 0 0, .slice none 0 0, .int .u8 0, .int .i64 0, .string ⟨#[]⟩, .slice none 0 0] 38))) ⟨?_⟩ (fun HP3 => ?_); (focus ((repeat first | ((with_reducible apply blk_top); (first | rfl | (simp; done))) | (with_reducible apply blk_drew) | (with_reducible apply blk_sub) | (with_reducible apply HKC.out) | (with_reducible apply HKA.out)); done)); obtain ⟨p0, p1, p2, p3, p4, p5⟩ := six_cells HP3.out; have f0 := blk_free HP3.out 0; have f1 := blk_free HP3.out 1; have f2 := blk_free HP3.out 2; have f3 := blk_free HP3.out 3; have f4 := blk_free HP3.out 4; have f5 := blk_free HP3.out 5)); (try (refine have_then (p := Hd (w3.heap[W0.heap.size + 1]? = some (.cells #[.slice none 0 0, .slice none 0 0, .int .u8 0, .int .i64 0, .string ⟨#[]⟩, .slice none 0 0] 38))) ⟨?_⟩ (fun HP3 => ?_); (focus ((repeat first | ((with_reducible apply blk_top); (first | rfl | (simp; done))) | (with_reducible apply blk_drew) | (with_reducible apply blk_sub) | (with_reducible apply HKC.out) | (with_reducible apply HKA.out)); done)); obtain ⟨p0, p1, p2, p3, p4, p5⟩ := six_cells HP3.out; have f0 := blk_free HP3.out 0; have f1 := blk_free HP3.out 1; have f2 := blk_free HP3.out 2; have f3 := blk_free HP3.out 3; have f4 := blk_free HP3.out 4; have f5 := blk_free HP3.out 5)); (try (refine have_then (p := Hd (w3.heap[w4.heap.size]? = some (.cells #[.slice none 0 0, .slice none 0 0, .int .u8 0, .int .i64 0, .string ⟨#[]⟩, .slice none 0 0] 38))) ⟨?_⟩ (fun HP3 => ?_); (focus ((repeat first | ((with_reducible apply blk_top); (first | rfl | (simp; done))) | (with_reducible apply blk_drew) | (with_reducible apply blk_sub) | (with_reducible apply HKC.out) | (with_reducible apply HKA.out)); done)); obtain ⟨p0, p1, p2, p3, p4, p5⟩ := six_cells HP3.out; have f0 := blk_free HP3.out 0; have f1 := blk_free HP3.out 1; have f2 := blk_free HP3.out 2; have f3 := blk_free HP3.out 3; have f4 := blk_free HP3.out 4; have f5 := blk_free HP3.out 5)); clear hb ho)
        | ((fail_if_success have hxx := HB4.out); refine step_append_new (by rfl) _ _ _ (by rfl) 58 d0 _ 3 32 Tryd.underlying35 hd hdz0 hdz1 hdz2 rfl (by omega) ⟨_, 0, none⟩ h.A p.vars.length h.c (declVals p.vars) (by rfl) (by rfl) HVL.out ?_ HVM.out.1 HVM.out.2 ?_; (focus ((refine HVC.out.below ?_); (repeat first | (with_reducible apply Below.refl) | (with_reducible apply Below.drew) | (with_reducible apply ext_alloc) | (with_reducible apply HBC.out) | (with_reducible apply HBA.out)); done)); intro vA vc w4 hb hvc hcs; have HBA := Hd.mk (fun (v : World) (h : Below v.heap.size v _) => ext_trans h hb); have HKA := Hd.mk (fun (p : Nat) (o : Obj) (h : _ = _) => stands (p := p) (o := o) h hb); have s1 := hb.size; have HVD := Hd.mk (DeclsIn.mk HVF.out hvc HVM.out.2 hcs); refine have_then (p := Hd (Below W0.heap.size W0 w4)) ⟨?_⟩ (fun HB4 => ?_); (focus ((repeat first | (with_reducible apply Below.refl) | (with_reducible apply Below.drew) | (with_reducible apply ext_alloc) | (with_reducible apply HBC.out) | (with_reducible apply HBA.out)); done)); have z4 := HB4.out.size; obtain ⟨x0, x1, x2, x3, x4, x5⟩ := KS.out _ HB4.out; clear hb hvc hcs))
      all_goals (go_wp2_with fail; go_meet)
      all_goals
        have hBl : Below w4.heap.size w4 w3 := by (repeat first | (with_reducible apply Below.refl) | (with_reducible apply Below.drew) | (with_reducible apply ext_alloc) | (with_reducible apply HBC.out) | (with_reducible apply HBA.out))
        simp at s1 s2
        refine ⟨_, vA, vc, mA, mc, rfl, ?_⟩
        first
          | (have HPq := HP3.out
             refine PO.start (W1 := w3) B2.out HB3.out (six_below HB3.out ?_ _ _ _ _ _ _) (fun b _ hb => six_other hb) (six_res HPq) ?_ (HVD.out.move (fun b _ hl => hBl.block b hl) (fun b hb hl => ⟨?_, ?_⟩)) (Node.In.move (fun _ _ _ => rfl) (fun b hb hl => ⟨?_, ?_⟩) _ HMR.out))
          | (refine PO.start (W1 := w3) B2.out HB3.out (ext_alloc HB3.out _) (fun b hb _ => (Go.MapKept.heap_alloc _ _).2 b hb) (new_block _ _) ?_ (HVD.out.move (fun b _ hl => hBl.block b hl) (fun b hb hl => ⟨?_, ?_⟩)) (Node.In.move (fun _ _ _ => rfl) (fun b hb hl => ⟨?_, ?_⟩) _ HMR.out))
      all_goals (first | omega | (intro e; simp at hb; omega) | (simp at hb; omega) | trace_state)
    case rest =>
      obtain ⟨P, vA, vc, mA, mc, rfl, hpo⟩ := hcut
      obtain ⟨x0, x1, x2, x3, x4, x5⟩ := six_cells hpo.box
      obtain ⟨i0, hi, hz0, hz1, hz2⟩ := info_parts infoProc
      have HPO := Hd.mk hpo
      obtain ⟨pm, hpm⟩ : ∃ x, p.of p.main = x := ⟨_, rfl⟩
      rw [hpm] at HPO
      have HPM := Hd.mk hpm
      have HRS := Hd.mk (show p.mapB p.of = ⟨p.vars, p.procs.map (Prc.mapB p.of), p.of p.main⟩ from rfl)
      clear hpo hpm B1 KS HM2 HVC HVF HVL HVM
      go_wp2_with fail
      go_loopw [6, 22] (fun v6 v22 W => ∃ (j : Nat) (pB : Option Addr) (pd : Nat) (l : List Prc) (hs2 : List PH), v22 = .int .i64 j ∧ j ≤ p.procs.length ∧ Hd (l = (p.procs.take j).map (Prc.mapB p.of)) ∧ PO w W p h P vA vc pm mA mc l pB pd hs2) (fun _ v22 _ => p.procs.length - (intOf v22).toNat)
      case atStart => exact ⟨0, none, 0, [], [], rfl, Nat.zero_le _, ⟨rfl⟩, HPO.out⟩
      case round =>
        clear x0 x1 x2 x3 x4 x5
        obtain ⟨j, pB, pd, l, hs2, rfl, hj, HA, R⟩ := hrel
        have hal : l.length = j := by rw [HA.out, List.length_map, List.length_take]; omega
        by_cases hlt : j < p.procs.length
        · obtain ⟨b, o, g1, hB, ⟨e0, e1, e2, e3, e4, e5⟩, hbl, hpi⟩ := (HQ.out.below R.below).at_ j hlt
          rw [hB]
          have HPI := Hd.mk hpi
          have HM := Hd.mk (show p.procs.take (j + 1) = p.procs.take j ++ [p.procs[j]] from List.take_succ_eq_append_getElem hlt)
          have HR := Hd.mk R
          have HAL := Hd.mk hal
          have hlb : l.length ≤ 1466015503700 := by omega
          have hlc := HQ.out.cap
          have hlb2 : (l.length + 1) * 96 ≤ 140737488355328 := by omega
          have HLC := Hd.mk hlc
          clear hB hpi R hal hlc
          go_wp2_with fail
          have hb8 := ext_alloc (Below.refl wr.heap.size wr) (.cells #[.string p.procs[j].name, .slice g1.A p.procs[j].params.length g1.c, .int .u8 p.procs[j].body.kind, .int .i64 p.procs[j].body.num, .string p.procs[j].body.name, .slice g1.B p.procs[j].body.kids.length g1.d] 55)
          have HR8 := Hd.mk (HR.out.next hb8)
          have HPI8 := Hd.mk (HPI.out.below hb8)
          have HB8 := Hd.mk hb8
          have HF8 := Hd.mk (new_block wr (.cells #[.string p.procs[j].name, .slice g1.A p.procs[j].params.length g1.c, .int .u8 p.procs[j].body.kind, .int .i64 p.procs[j].body.num, .string p.procs[j].body.name, .slice g1.B p.procs[j].body.kids.length g1.d] 55))
          have HFS := Hd.mk (World.size_alloc wr (.cells #[.string p.procs[j].name, .slice g1.A p.procs[j].params.length g1.c, .int .u8 p.procs[j].body.kind, .int .i64 p.procs[j].body.num, .string p.procs[j].body.name, .slice g1.B p.procs[j].body.kids.length g1.d] 55))
          clear hb8
          generalize wr.alloc (.cells #[.string p.procs[j].name, .slice g1.A p.procs[j].params.length g1.c, .int .u8 p.procs[j].body.kind, .int .i64 p.procs[j].body.num, .string p.procs[j].body.name, .slice g1.B p.procs[j].body.kids.length g1.d] 55) = W8 at HR8 HPI8 HB8 HF8 HFS
          have HPF := Hd.mk (stands_lt HR.out.out)
          have HFN := Hd.mk (show some wr.heap.size ≠ (Value.slice pB l.length pd).ownBlock from fun e => by have := row_lt HR.out.procs.row e.symm; omega)
          have HFP := Hd.mk (show wr.heap.size ≠ P by have := HPF.out; omega)
          have HNr := Hd.mk (show w.heap.size ≤ wr.heap.size from HR.out.below.size)
          obtain ⟨F, hF⟩ : ∃ x, x = wr.heap.size := ⟨_, rfl⟩
          rw [← hF] at HF8 HFN HFP HFS ⊢
          have HFE := Hd.mk hF
          obtain ⟨u, hu⟩ : ∃ u, p.of p.procs[j].body = u := ⟨_, rfl⟩
          have HU := Hd.mk hu
          have HP8 := Hd.mk HR8.out.out
          have HROW := Hd.mk (fun W' (hb : Below W8.heap.size W8 W') => (HR8.out.procs.below hb).row)
          have HVC := Hd.mk (HPI8.out.params.row.move (ok' := fun _ => True) (fun _ _ _ => rfl) (fun _ _ _ => trivial))
          have HVF := Hd.mk HPI8.out.params.fits
          have HVL := Hd.mk (declVals_length p.procs[j].params)
          have HVM : Hd (p.procs[j].params.length ≤ maxLen ∧ p.procs[j].params.length * 32 ≤ 140737488355328) := ⟨by have := HPI8.out.params.cap; simp only [maxLen]; omega, HPI8.out.params.cap⟩
          have HBD := Hd.mk HPI8.out.body
          obtain ⟨x0, x1, x2, x3, x4, x5⟩ := six_cells HF8.out
          obtain ⟨p0, p1, p2, p3, p4, p5⟩ := six_cells HP8.out
          clear hF hu e0 e1 e2 e3 e4 e5 hbl
          refine wp_region_L 16 (S := fun W' => (W'.cell? ⟨F, 0, none⟩ = some (.string p.procs[j].name) ∧ W'.cell? ⟨F, 1, none⟩ = some (.slice g1.A p.procs[j].params.length g1.c) ∧ W'.cell? ⟨F, 2, none⟩ = some (.int .u8 p.procs[j].body.kind) ∧ W'.cell? ⟨F, 3, none⟩ = some (.int .i64 p.procs[j].body.num) ∧ W'.cell? ⟨F, 4, none⟩ = some (.string p.procs[j].body.name) ∧ W'.cell? ⟨F, 5, none⟩ = some (.slice g1.B p.procs[j].body.kids.length g1.d)) ∧ W'.cell? ⟨P, 1, none⟩ = some (.slice pB l.length pd)) (by kernel_rfl) (by decide +kernel) (by decide +kernel) (by decide +kernel) ?_ (fun hHeld => ?_)
          focus ((try dsimp only); (refine ⟨?_, ?_⟩; (focus ((with_reducible apply six_cells); (repeat first | ((with_reducible apply blk_top); (first | rfl | (simp; done))) | (with_reducible apply blk_drew) | (with_reducible apply blk_sub) | (with_reducible apply HF8.out) | (with_reducible apply HP8.out) | (with_reducible apply HKC.out) | (with_reducible apply HKA.out)); done)); (focus ((with_reducible apply cell_one); (repeat first | ((with_reducible apply blk_top); (first | rfl | (simp; done))) | (with_reducible apply blk_drew) | (with_reducible apply blk_sub) | (with_reducible apply HF8.out) | (with_reducible apply HP8.out) | (with_reducible apply HKC.out) | (with_reducible apply HKA.out)); done))))
          (refine wpAnyH_take (i := 0) (v := ?_) rfl (by decide +kernel) (by decide +kernel) (by decide +kernel) (fun _ _ _ h => h) (Or.inl ⟨by rfl, ?_⟩) hHeld ?_; rotate_left; (focus ((intro wq hSq; (try dsimp only at hSq); go_simp); (try with_reducible rfl); done)); (try simp only [Act.put, List.setIfInBounds_toArray, List.set_cons_zero, List.set_cons_succ]))
          (refine wpAnyH_take (i := 1) (v := ?_) rfl (by decide +kernel) (by decide +kernel) (by decide +kernel) (fun _ _ _ h => h) (Or.inl ⟨by rfl, ?_⟩) hHeld ?_; rotate_left; (focus ((intro wq hSq; (try dsimp only at hSq); go_simp); (try with_reducible rfl); done)); (try simp only [Act.put, List.setIfInBounds_toArray, List.set_cons_zero, List.set_cons_succ]))
          (refine wpAnyH_take (i := 2) (v := ?_) rfl (by decide +kernel) (by decide +kernel) (by decide +kernel) (fun _ _ _ h => h) (Or.inl ⟨by rfl, ?_⟩) hHeld ?_; rotate_left; (focus ((intro wq hSq; (try dsimp only at hSq); go_simp); (try with_reducible rfl); done)); (try simp only [Act.put, List.setIfInBounds_toArray, List.set_cons_zero, List.set_cons_succ]))
          (refine wpAnyH_take (i := 3) (v := ?_) rfl (by decide +kernel) (by decide +kernel) (by decide +kernel) (fun _ _ _ h => h) (Or.inl ⟨by rfl, ?_⟩) hHeld ?_; rotate_left; (focus ((intro wq hSq; (try dsimp only at hSq); go_simp); (try with_reducible rfl); done)); (try simp only [Act.put, List.setIfInBounds_toArray, List.set_cons_zero, List.set_cons_succ]))
          (refine wpAnyH_take (i := 5) (v := ?_) rfl (by decide +kernel) (by decide +kernel) (by decide +kernel) (fun _ _ _ h => h) (Or.inl ⟨by rfl, ?_⟩) hHeld ?_; rotate_left; (focus ((intro wq hSq; (try dsimp only at hSq); go_simp); (try with_reducible rfl); done)); (try simp only [Act.put, List.setIfInBounds_toArray, List.set_cons_zero, List.set_cons_succ]))
          (refine wpAnyH_take (i := 6) (v := ?_) rfl (by decide +kernel) (by decide +kernel) (by decide +kernel) (fun _ _ _ h => h) (Or.inl ⟨by rfl, ?_⟩) hHeld ?_; rotate_left; (focus ((intro wq hSq; (try dsimp only at hSq); go_simp); (try with_reducible rfl); done)); (try simp only [Act.put, List.setIfInBounds_toArray, List.set_cons_zero, List.set_cons_succ]))
          (refine wpAnyH_take (i := 8) (v := ?_) rfl (by decide +kernel) (by decide +kernel) (by decide +kernel) (fun _ _ _ h => h) (Or.inl ⟨by rfl, ?_⟩) hHeld ?_; rotate_left; (focus ((intro wq hSq; (try dsimp only at hSq); go_simp); (try with_reducible rfl); done)); (try simp only [Act.put, List.setIfInBounds_toArray, List.set_cons_zero, List.set_cons_succ]))
          (refine wpAnyH_take (i := 9) (v := ?_) rfl (by decide +kernel) (by decide +kernel) (by decide +kernel) (fun _ _ _ h => h) (Or.inl ⟨by rfl, ?_⟩) hHeld ?_; rotate_left; (focus ((intro wq hSq; (try dsimp only at hSq); go_simp); (try with_reducible rfl); done)); (try simp only [Act.put, List.setIfInBounds_toArray, List.set_cons_zero, List.set_cons_succ]))
          (refine wpAnyH_take (i := 10) (v := ?_) rfl (by decide +kernel) (by decide +kernel) (by decide +kernel) (fun _ _ _ h => h) (Or.inl ⟨by rfl, ?_⟩) hHeld ?_; rotate_left; (focus ((intro wq hSq; (try dsimp only at hSq); go_simp); (try with_reducible rfl); done)); (try simp only [Act.put, List.setIfInBounds_toArray, List.set_cons_zero, List.set_cons_succ]))
          (refine held_one (i := 4) (by decide +kernel) rfl (fun K hK => ?_); go_simp; refine hK.out _ _ ?_ (fun hHeld => ?_); (focus ((try dsimp only); (refine ⟨?_, ?_⟩; (focus ((with_reducible apply six_cells); (repeat first | ((with_reducible apply blk_top); (first | rfl | (simp; done))) | (with_reducible apply blk_drew) | (with_reducible apply blk_sub) | (with_reducible apply HF8.out) | (with_reducible apply HP8.out) | (with_reducible apply HKC.out) | (with_reducible apply HKA.out)); done)); (focus ((with_reducible apply cell_one); (repeat first | ((with_reducible apply blk_top); (first | rfl | (simp; done))) | (with_reducible apply blk_drew) | (with_reducible apply blk_sub) | (with_reducible apply HF8.out) | (with_reducible apply HP8.out) | (with_reducible apply HKC.out) | (with_reducible apply HKA.out)); done))))); clear hK K; (try simp only [Act.put, List.setIfInBounds_toArray, List.set_cons_zero, List.set_cons_succ]))
          (refine held_one (i := 7) (by decide +kernel) rfl (fun K hK => ?_); ((fail_if_success have hxx := HB4.out); refine step_append_new (by rfl) _ _ _ (by rfl) 58 d0 _ 3 32 Tryd.underlying35 hd hdz0 hdz1 hdz2 rfl (by omega) ⟨_, 0, none⟩ g1.A p.procs[j].params.length g1.c (declVals p.procs[j].params) (by rfl) (by rfl) HVL.out ?_ HVM.out.1 HVM.out.2 ?_; (focus ((refine HVC.out.below ?_); (repeat first | (with_reducible apply Below.refl) | (with_reducible apply Below.drew) | (with_reducible apply ext_alloc) | (with_reducible apply HBC.out) | (with_reducible apply HBA.out)); done)); intro vA2 vc2 w4 hb hvc hcs; have HBA := Hd.mk (fun (v : World) (h : Below v.heap.size v _) => ext_trans h hb); have HKA := Hd.mk (fun (p : Nat) (o : Obj) (h : _ = _) => stands (p := p) (o := o) h hb); have HVD := Hd.mk (DeclsIn.mk HVF.out hvc HVM.out.2 hcs); have s1 := hb.size; refine have_then (p := Hd (Below W8.heap.size W8 w4)) ⟨?_⟩ (fun HB4 => ?_); (focus ((repeat first | (with_reducible apply Below.refl) | (with_reducible apply Below.drew) | (with_reducible apply ext_alloc) | (with_reducible apply HBC.out) | (with_reducible apply HBA.out)); done)); refine have_then (p := Hd (w4.heap[P]? = some (.cells #[.slice vA p.vars.length vc, .slice pB l.length pd, .int .u8 pm.kind, .int .i64 pm.num, .string pm.name, .slice mA pm.kids.length mc] 38))) ⟨?_⟩ (fun HPx => ?_); (focus ((repeat first | ((with_reducible apply blk_top); (first | rfl | (simp; done))) | (with_reducible apply blk_drew) | (with_reducible apply blk_sub) | (with_reducible apply HF8.out) | (with_reducible apply HP8.out) | (with_reducible apply HKC.out) | (with_reducible apply HKA.out)); done)); refine have_then (p := Hd (w4.heap[F]? = some (.cells #[.string p.procs[j].name, .slice g1.A p.procs[j].params.length g1.c, .int .u8 p.procs[j].body.kind, .int .i64 p.procs[j].body.num, .string p.procs[j].body.name, .slice g1.B p.procs[j].body.kids.length g1.d] 55))) ⟨?_⟩ (fun HFx => ?_); (focus ((repeat first | ((with_reducible apply blk_top); (first | rfl | (simp; done))) | (with_reducible apply blk_drew) | (with_reducible apply blk_sub) | (with_reducible apply HF8.out) | (with_reducible apply HP8.out) | (with_reducible apply HKC.out) | (with_reducible apply HKA.out)); done)); obtain ⟨p0, p1, p2, p3, p4, p5⟩ := six_cells HPx.out; obtain ⟨x0, x1, x2, x3, x4, x5⟩ := six_cells HFx.out; clear HPx HFx; clear hb hvc hcs); refine hK.out _ _ ?_ (fun hHeld => ?_); (focus ((try dsimp only); (refine ⟨?_, ?_⟩; (focus ((with_reducible apply six_cells); (repeat first | ((with_reducible apply blk_top); (first | rfl | (simp; done))) | (with_reducible apply blk_drew) | (with_reducible apply blk_sub) | (with_reducible apply HF8.out) | (with_reducible apply HP8.out) | (with_reducible apply HKC.out) | (with_reducible apply HKA.out)); done)); (focus ((with_reducible apply cell_one); (repeat first | ((with_reducible apply blk_top); (first | rfl | (simp; done))) | (with_reducible apply blk_drew) | (with_reducible apply blk_sub) | (with_reducible apply HF8.out) | (with_reducible apply HP8.out) | (with_reducible apply HKC.out) | (with_reducible apply HKA.out)); done))))); clear hK K; (try simp only [Act.put, List.setIfInBounds_toArray, List.set_cons_zero, List.set_cons_succ]))
          (refine held_one (i := 11) (by decide +kernel) rfl (fun K hK => ?_); (go_simp; ((have hxx := HB4.out); (fail_if_success have hyy := HB3.out); (with_reducible refine (HOF.out p.procs[j].body g1.B g1.d _ (fun b => b < w.heap.size) ?_ ?_).mono ?_); (focus ((refine HW.out.below (ext_trans HR8.out.below ?_)); (repeat first | (with_reducible apply Below.refl) | (with_reducible apply Below.drew) | (with_reducible apply ext_alloc) | (with_reducible apply HBC.out) | (with_reducible apply HBA.out)); done)); (focus ((refine HBD.out.below ?_); (repeat first | (with_reducible apply Below.refl) | (with_reducible apply Below.drew) | (with_reducible apply ext_alloc) | (with_reducible apply HBC.out) | (with_reducible apply HBA.out)); done)); rw [HU.out]; rintro e w3 ⟨mA2, mc2, rfl, hb, ho⟩; have HBC := Hd.mk (fun (v : World) (h : Below v.heap.size v _) => ext_trans h hb); have HKC := Hd.mk (fun (p : Nat) (o : Obj) (h : _ = _) => stands (p := p) (o := o) h hb); have HMR := Hd.mk (ho.reads _); have s2 := hb.size; refine have_then (p := Hd (Below W8.heap.size W8 w3)) ⟨?_⟩ (fun HB3 => ?_); (focus ((repeat first | (with_reducible apply Below.refl) | (with_reducible apply Below.drew) | (with_reducible apply ext_alloc) | (with_reducible apply HBC.out) | (with_reducible apply HBA.out)); done)); refine have_then (p := Hd (w3.heap[P]? = some (.cells #[.slice vA p.vars.length vc, .slice pB l.length pd, .int .u8 pm.kind, .int .i64 pm.num, .string pm.name, .slice mA pm.kids.length mc] 38))) ⟨?_⟩ (fun HPx => ?_); (focus ((repeat first | ((with_reducible apply blk_top); (first | rfl | (simp; done))) | (with_reducible apply blk_drew) | (with_reducible apply blk_sub) | (with_reducible apply HF8.out) | (with_reducible apply HP8.out) | (with_reducible apply HKC.out) | (with_reducible apply HKA.out)); done)); refine have_then (p := Hd (w3.heap[F]? = some (.cells #[.string p.procs[j].name, .slice g1.A p.procs[j].params.length g1.c, .int .u8 p.procs[j].body.kind, .int .i64 p.procs[j].body.num, .string p.procs[j].body.name, .slice g1.B p.procs[j].body.kids.length g1.d] 55))) ⟨?_⟩ (fun HFx => ?_); (focus ((repeat first | ((with_reducible apply blk_top); (first | rfl | (simp; done))) | (with_reducible apply blk_drew) | (with_reducible apply blk_sub) | (with_reducible apply HF8.out) | (with_reducible apply HP8.out) | (with_reducible apply HKC.out) | (with_reducible apply HKA.out)); done)); obtain ⟨p0, p1, p2, p3, p4, p5⟩ := six_cells HPx.out; obtain ⟨x0, x1, x2, x3, x4, x5⟩ := six_cells HFx.out; clear HPx HFx; clear hb ho hxx)); refine hK.out _ _ ?_ (fun hHeld => ?_); (focus ((try dsimp only); (refine ⟨?_, ?_⟩; (focus ((with_reducible apply six_cells); (repeat first | ((with_reducible apply blk_top); (first | rfl | (simp; done))) | (with_reducible apply blk_drew) | (with_reducible apply blk_sub) | (with_reducible apply HF8.out) | (with_reducible apply HP8.out) | (with_reducible apply HKC.out) | (with_reducible apply HKA.out)); done)); (focus ((with_reducible apply cell_one); (repeat first | ((with_reducible apply blk_top); (first | rfl | (simp; done))) | (with_reducible apply blk_drew) | (with_reducible apply blk_sub) | (with_reducible apply HF8.out) | (with_reducible apply HP8.out) | (with_reducible apply HKC.out) | (with_reducible apply HKA.out)); done))))); clear hK K; (try simp only [Act.put, List.setIfInBounds_toArray, List.set_cons_zero, List.set_cons_succ]))
          (refine wpAnyH_take (i := 12) (v := ?_) rfl (by decide +kernel) (by decide +kernel) (by decide +kernel) (fun _ _ _ h => h) (Or.inl ⟨by rfl, ?_⟩) hHeld ?_; rotate_left; (focus ((intro wq hSq; (try dsimp only at hSq); go_simp); (try with_reducible rfl); done)); (try simp only [Act.put, List.setIfInBounds_toArray, List.set_cons_zero, List.set_cons_succ]))
          (refine held_one (i := 13) (by decide +kernel) rfl (fun K hK => ?_); go_simp; refine hK.out _ _ ?_ (fun hHeld => ?_); (focus ((try dsimp only); (refine ⟨?_, ?_⟩; (focus ((with_reducible apply six_cells); (repeat first | ((with_reducible apply blk_top); (first | rfl | (simp; done))) | (with_reducible apply blk_drew) | (with_reducible apply blk_sub) | (with_reducible apply HF8.out) | (with_reducible apply HP8.out) | (with_reducible apply HKC.out) | (with_reducible apply HKA.out)); done)); (focus ((with_reducible apply cell_one); (repeat first | ((with_reducible apply blk_top); (first | rfl | (simp; done))) | (with_reducible apply blk_drew) | (with_reducible apply blk_sub) | (with_reducible apply HF8.out) | (with_reducible apply HP8.out) | (with_reducible apply HKC.out) | (with_reducible apply HKA.out)); done))))); clear hK K; (try simp only [Act.put, List.setIfInBounds_toArray, List.set_cons_zero, List.set_cons_succ]))
          (refine held_one (i := 14) (by decide +kernel) rfl (fun K hK => ?_); ((have hxx := HB3.out); (fail_if_success have hyy := HB5.out); refine step_append_lies _ (by rfl) _ _ _ (by rfl) 0 55 i0 _ 6 96 Tryd.underlying36 hi hz0 hz1 hz2 rfl (by omega) (.slice pB l.length pd) l.length (prcVals l hs2) (by rfl) (HROW.out _ ?_) ⟨w3.heap.size, 0, none⟩ 1 1 [.string p.procs[j].name, .slice vA2 p.procs[j].params.length vc2, .int .u8 u.kind, .int .i64 u.num, .string u.name, .slice mA2 u.kids.length mc2] (by rfl) (by rfl) (World.news_of_block (heap_alloc_new w3 _)) (by simp [Value.oneCell']) (by omega) (by simp [maxLen]; omega) (by omega) (by omega) (w3.heap.size + 1) (by simp) ?_; (focus ((repeat first | (with_reducible apply Below.refl) | (with_reducible apply Below.drew) | (with_reducible apply ext_alloc) | (with_reducible apply HBC.out) | (with_reducible apply HBA.out)); done)); intro k cap w5 hrow hgr hat hlt5; have hq5 := prc_after HR8.out HB3.out hgr; have HB5 := Hd.mk hq5.1; have HF5 := Hd.mk (six_cells (hq5.2 _ _ HF8.out HFN.out)); have HF6 := Hd.mk (fun v => six_cells (blk_set HFP.out (hq5.2 _ _ HF8.out HFN.out) 1 v)); obtain ⟨p0, p1, p2, p3, p4, p5⟩ := six_cells hq5.1; have q1 := blk_free hq5.1 1; obtain ⟨x0, x1, x2, x3, x4, x5⟩ := HF5.out; clear hxx hq5); refine hK.out _ _ ?_ (fun hHeld => ?_); (focus ((try dsimp only); (exact ⟨HF5.out, p1⟩))); clear hK K; (try simp only [Act.put, List.setIfInBounds_toArray, List.set_cons_zero, List.set_cons_succ]))
          (refine wpAnyH_take (i := 15) (v := ?_) rfl (by decide +kernel) (by decide +kernel) (by decide +kernel) (fun _ _ _ h => h) (Or.inl ⟨by rfl, ?_⟩) hHeld ?_; rotate_left; (focus ((intro wq hSq; (try dsimp only at hSq); go_simp); (try with_reducible rfl); done)); (try simp only [Act.put, List.setIfInBounds_toArray, List.set_cons_zero, List.set_cons_succ]))
          (refine wpAnyH_done (by decide +kernel) ?_ _; refine behind_last (n := 16) rfl (fun K hK => ?_); go_simp; refine hK.out _ _ ?_; clear hK K; (try simp only [Act.put, List.setIfInBounds_toArray, List.set_cons_zero, List.set_cons_succ]))
          go_wp2_with fail
          go_roundw
          case rel =>
            refine ⟨j + 1, some ⟨k, 0, none⟩, cap, l ++ [Prc.mapB p.of p.procs[j]], _, by go_num, hlt, ⟨?_⟩, HR.out.push (f := Prc.mapB p.of p.procs[j]) (g := ⟨vA2, vc2, mA2, mc2⟩) (w1 := w3.alloc (.cells #[.string p.procs[j].name, .slice vA2 p.procs[j].params.length vc2, .int .u8 u.kind, .int .i64 u.num, .string u.name, .slice mA2 u.kids.length mc2] 55)) (ext_alloc (ext_trans HB8.out HB3.out) _) ?_ ?_ hgr ?_⟩
            · rw [HM.out, List.map_append, HA.out]; rfl
            · have hBl : Below w4.heap.size w4 w3 := by (repeat first | (with_reducible apply Below.refl) | (with_reducible apply Below.drew) | (with_reducible apply ext_alloc) | (with_reducible apply HBC.out) | (with_reducible apply HBA.out))
              have hsz := HFS.out
              have hfe := HFE.out
              have s3 := HB3.out.size
              simp at s1 s2
              refine PrcIn.below (w := w3) ?_ (ext_alloc (Below.refl _ _) _)
              refine ⟨HPI8.out.name, (HVD.out.below hBl).move (fun _ _ _ => rfl) (fun b hb _ => .inr ?_), ?_⟩
              · simp at hb; omega
              · show Node.In w3 _ (p.of p.procs[j].body) mA2 mc2
                rw [HU.out]
                exact Node.In.move (fun _ _ _ => rfl) (fun b hb _ => .inr (by simp at hb; omega)) _ HMR.out
            · have : (Prc.mapB p.of p.procs[j]).vals ⟨vA2, vc2, mA2, mc2⟩ = [.string p.procs[j].name, .slice vA2 p.procs[j].params.length vc2, .int .u8 u.kind, .int .i64 u.num, .string u.name, .slice mA2 u.kids.length mc2] := by
                unfold Prc.mapB Prc.vals; rw [HU.out]
              rw [this]; exact hrow
            · rcases hat with e | e
              · exact .inl e
              · exact .inr (by simpa using e)
          case measure => simp [intOf]; omega
        · have : j = p.procs.length := by omega
          subst this
          have HR := Hd.mk R
          have HLE := Hd.mk (show l = p.procs.map (Prc.mapB p.of) by rw [HA.out, List.take_length])
          have HLC := Hd.mk (show l.length * 96 ≤ 140737488355328 by rw [hal]; exact HQ.out.cap)
          obtain ⟨x0, x1, x2, x3, x4, x5⟩ := six_cells R.out
          obtain ⟨y0, y1, y2, y3, y4, y5⟩ := six_cells R.res
          have f0 := blk_free R.res 0
          have f1 := blk_free R.res 1
          have f2 := blk_free R.res 2
          have f3 := blk_free R.res 3
          have f4 := blk_free R.res 4
          have f5 := blk_free R.res 5
          clear R hal
          go_wp2_with fail
          have hfin := HR.out.fin HLC.out (.slice vA p.vars.length vc) (.slice pB l.length pd) (.int .u8 pm.kind) (.int .i64 pm.num) (.string pm.name) (.slice mA pm.kids.length mc)
          have e : p.mapB p.of = ⟨p.vars, l, pm⟩ := by rw [HRS.out, HLE.out, HPM.out]
          rw [e]
          refine bodyPost_ret (v := (.agg #[.slice (⟨vA, vc, pB, pd, mA, mc⟩ : GH).A (⟨p.vars, l, pm⟩ : Prg).vars.length (⟨vA, vc, pB, pd, mA, mc⟩ : GH).c, .slice (⟨vA, vc, pB, pd, mA, mc⟩ : GH).B (⟨p.vars, l, pm⟩ : Prg).procs.length (⟨vA, vc, pB, pd, mA, mc⟩ : GH).d, .int .u8 (⟨p.vars, l, pm⟩ : Prg).main.kind, .int .i64 (⟨p.vars, l, pm⟩ : Prg).main.num, .string (⟨p.vars, l, pm⟩ : Prg).main.name, .slice (⟨vA, vc, pB, pd, mA, mc⟩ : GH).C (⟨p.vars, l, pm⟩ : Prg).main.kids.length (⟨vA, vc, pB, pd, mA, mc⟩ : GH).e])) ?_ rfl ⟨⟨vA, vc, pB, pd, mA, mc⟩, rfl, hfin.1, hfin.2⟩
          have hc := six_cells (six_res (u0 := .slice vA p.vars.length vc) (u1 := .slice pB l.length pd) (u2 := .int .u8 pm.kind) (u3 := .int .i64 pm.num) (u4 := .string pm.name) (u5 := .slice mA pm.kids.length mc) HR.out.res)
          simp [results, Tryd.results22, go_sem, hc]
end Go.Proofs.YtgjanglonccclaaDoor
