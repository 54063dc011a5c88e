/- Contract of the law's small. -/
import Derived.Test.YtgjanglonccclaaDoorPrgV
namespace Go.Proofs.YtgjanglonccclaaDoor
open Go.RowKit
set_option linter.unusedVariables false
set_option linter.unusedSimpArgs false

def Prg.smallB (p : Prg) : Bool := (decide ((p.procs.length : Int) ≤ 4) && (p.validB && decide (p.main.sizeW ≤ 100))) && p.procs.all fun f => decide (f.body.sizeW ≤ 100)
def Prg.smallN (p : Prg) : Int := if p.smallB then 1 else 0
theorem Prg.smallN_no {p : Prg} (h : p.smallB = false) : p.smallN = 0 := by simp [Prg.smallN, h]
theorem Prg.smallN_yes {p : Prg} (h : p.smallB = true) : p.smallN = 1 := by simp [Prg.smallN, h]
theorem Prg.smallB_valid {p : Prg} (h : p.smallB = true) : p.validB = true := by
  unfold Prg.smallB at h
  simp only [Bool.and_eq_true] at h
  exact h.1.2.1

set_option maxHeartbeats 2000000 in
theorem small_any (p : Prg) (h : GH) (w : World) (ok : Nat → Prop) (hw : Good w) (hp : PrgIn w ok p h) :
    Calls Tryd.prog 25 #[(.agg #[.slice h.A p.vars.length h.c, .slice h.B p.procs.length h.d, .int .u8 p.main.kind, .int .i64 p.main.num, .string p.main.name, .slice h.C p.main.kids.length h.e])] w fun e w' => e = .returned (.int .i64 p.smallN) ∧ Below w.heap.size w w' := by
  have B0 := Hd.mk (BoxP.start w p h)
  obtain ⟨hs, hq⟩ := hp.procs
  have HV := Hd.mk (fun W (hb : Below w.heap.size w W) => valid_any p h W ok (hw.below hb) (hp.below hb))
  have HM := Hd.mk (fun W (hb : Below w.heap.size w W) => size_any p.main h.C h.e W ok (hp.main.below hb))
  have HQ := Hd.mk hq
  have hlp := hq.lenZ
  have HX := Hd.mk (show p.smallB = ((decide ((p.procs.length : Int) ≤ 4) && (p.validB && decide (p.main.sizeW ≤ 100))) && p.procs.all fun f => decide (f.body.sizeW ≤ 100)) from rfl)
  clear hp hw hq
  generalize p.validB = b1 at HV HX
  generalize p.main.sizeW = s1 at HM HX
  go_enter Tryd.func25, Tryd.ntmps25
  by_cases hd : (p.procs.length : Int) ≤ 4
  case neg =>
    have hd1 : decide ((p.procs.length : Int) ≤ 4) = false := by simpa using hd
    rw [hd1] at HX
    go_wp2_with fail
    go_ret
    exact ⟨ret_int (Prg.smallN_no (by rw [HX.out]; simp)).symm, B0.out.below⟩
  have hd1 : decide ((p.procs.length : Int) ≤ 4) = true := by simpa using hd
  rw [hd1] at HX
  go_wp2_with fail
  refine (HV.out _ B0.out.below).mono ?_
  rintro e w1 ⟨rfl, hb1⟩
  have B1 := Hd.mk (B0.out.next hb1)
  obtain ⟨⟨x0, x1, x2, x3, x4, x5⟩, hz⟩ := B1.out.facts
  clear hb1
  cases b1
  · go_wp2_with fail
    go_ret
    exact ⟨ret_int (Prg.smallN_no (by rw [HX.out]; simp)).symm, B1.out.below⟩
  go_wp2_with fail
  refine (HM.out _ B1.out.below).mono ?_
  rintro e w2 ⟨rfl, hb2⟩
  have B2 := Hd.mk (B1.out.next hb2)
  obtain ⟨⟨x0, x1, x2, x3, x4, x5⟩, hz⟩ := B2.out.facts
  clear hb2
  by_cases hs1 : s1 ≤ 100
  case neg =>
    have hs2 : decide (s1 ≤ 100) = false := by simpa using hs1
    rw [hs2] at HX
    go_wp2_with fail
    go_ret
    exact ⟨ret_int (Prg.smallN_no (by rw [HX.out]; simp)).symm, B2.out.below⟩
  have hs2 : decide (s1 ≤ 100) = true := by simpa using hs1
  rw [hs2] at HX
  go_wp2_with fail
  go_loopw [3] (fun v3 W => ∃ j : Nat, j ≤ p.procs.length ∧ v3 = .int .i64 j ∧ Hd ((p.procs.take j).all (fun f => decide (f.body.sizeW ≤ 100)) = true) ∧ Below w2.heap.size w2 W) (fun v3 _ => p.procs.length - (intOf v3).toNat)
  case atStart => exact ⟨0, Nat.zero_le _, rfl, ⟨by simp⟩, Below.refl _ _⟩
  case round =>
    clear x0 x1 x2 x3 x4 x5
    obtain ⟨j, hj, rfl, HS, HB⟩ := hrel
    obtain ⟨⟨x0, x1, x2, x3, x4, x5⟩, hz3⟩ := (B2.out.next HB).facts
    have HHB := Hd.mk (B2.out.next HB)
    by_cases hlt : j < p.procs.length
    · obtain ⟨b, o, g, hA, ⟨e0, e1, e2, e3, e4, e5⟩, hbl, hpi⟩ := (HQ.out.below HHB.out.below).at_ j hlt
      rw [hA] at x1
      have HPI := Hd.mk hpi
      have HSZ := Hd.mk (size_any p.procs[j].body g.B g.d wr ok hpi.body)
      have HP := Hd.mk (fun (hh : decide (p.procs[j].body.sizeW ≤ 100) = false) => all_miss (P := fun f => decide (f.body.sizeW ≤ 100)) hlt hh)
      have HP2 := Hd.mk (fun (hh : decide (p.procs[j].body.sizeW ≤ 100) = true) => all_take (P := fun f => decide (f.body.sizeW ≤ 100)) hlt HS.out hh)
      generalize p.procs[j].body.sizeW = sz at HSZ HP HP2
      have HJ := Hd.mk HB
      have j0 : (0 : Int) ≤ (j : Int) := by omega
      have j1 : (j : Int) < (p.procs.length : Int) := by omega
      clear hA hpi HB
      go_wp2_with fail
      refine HSZ.out.mono ?_
      rintro e w3 ⟨rfl, hb3⟩
      have HB3 := Hd.mk (ext_trans HHB.out.below hb3)
      have HB4 := Hd.mk (ext_trans HJ.out hb3)
      clear hb3
      by_cases hs3 : sz ≤ 100
      · have hs4 := Hd.mk (HP2.out (by simpa using hs3))
        go_wp2_with fail
        go_roundw
        case rel => exact ⟨j + 1, hlt, by go_num, hs4, HB4.out⟩
        case measure => simp [intOf]; omega
      · have hs4 := Hd.mk (HP.out (by simpa using hs3))
        go_wp2_with fail
        go_ret
        exact ⟨ret_int (Prg.smallN_no (by rw [HX.out, hs4.out]; simp)).symm, HB3.out⟩
    · have : j = p.procs.length := by omega
      subst this
      clear HB
      go_wp2_with fail
      go_ret
      exact ⟨ret_int (Prg.smallN_yes (by rw [HX.out]; have := HS.out; rw [List.take_length] at this; rw [this]; rfl)).symm, HHB.out.below⟩
end Go.Proofs.YtgjanglonccclaaDoor
