/- The law SimplifyCancels: its walk. -/
import Derived.Test.YtgjanglonccclaaDoorAwake
namespace Go.Proofs.YtgjanglonccclaaDoor
open Go.RowKit
set_option linter.unusedVariables false
set_option linter.unusedSimpArgs false

theorem cancelsB_eq (a b : Node) : cancelsB a b = (a.isStmt && (b.isStmt && refCancelsB a b)) := rfl

set_option maxHeartbeats 4000000 in
theorem canLaw_any (a b : Node) (hsym : cancelsB b a = cancelsB a b) (A B : Option Addr) (c d : Nat) (w : World) (ok ok' : Nat → Prop) (hw : Good w) (ha : a.In w ok A c) (hb : b.In w ok' B d) :
    Calls Tryd.prog 3 #[.agg #[.int .u8 a.kind, .int .i64 a.num, .string a.name, .slice A a.kids.length c], .agg #[.int .u8 b.kind, .int .i64 b.num, .string b.name, .slice B b.kids.length d]] w fun e w' => e = .returned (.bool true) ∧ Below w.heap.size w w' := by
  have B0 := Hd.mk (Boxes2.start w a A c b B d)
  have HA := Hd.mk ha
  have HB := Hd.mk hb
  have HW := Hd.mk hw
  have HS := Hd.mk hsym
  clear ha hb hw hsym
  go_enter Tryd.func3, Tryd.ntmps3
  go_wp2_with fail
  refine (awake_any _ (HW.out.below B0.out.below)).mono ?_
  rintro e w1 ⟨rfl, hb1⟩
  have B1 := Hd.mk (B0.out.next hb1)
  obtain ⟨⟨x0, x1, x2, x3⟩, ⟨y0, y1, y2, y3⟩, hz⟩ := B1.out.facts
  clear hb1
  go_wp2_with fail
  refine (size_any a A c _ _ (HA.out.below B1.out.below)).mono ?_
  rintro e w2 ⟨rfl, hb2⟩
  have B2 := Hd.mk (B1.out.next hb2)
  obtain ⟨⟨x0, x1, x2, x3⟩, ⟨y0, y1, y2, y3⟩, hz⟩ := B2.out.facts
  clear hb2
  go_wp2_with fail
  any_goals (go_ret; exact ⟨rfl, B2.out.below⟩)
  refine (size_any b B d _ _ (HB.out.below B2.out.below)).mono ?_
  rintro e w3 ⟨rfl, hb3⟩
  have B3 := Hd.mk (B2.out.next hb3)
  obtain ⟨⟨x0, x1, x2, x3⟩, ⟨y0, y1, y2, y3⟩, hz⟩ := B3.out.facts
  clear hb3
  go_wp2_with fail
  any_goals (go_ret; exact ⟨rfl, B3.out.below⟩)
  · skip
    · cases hsa : a.isStmt
      · have HC1 := Hd.mk (show cancelsB a b = false by rw [cancelsB_eq, hsa]; rfl)
        have HC2 := Hd.mk (show cancelsB b a = false by rw [HS.out]; exact HC1.out)
        have HI := Hd.mk (fun W (h : Below w.heap.size w W) => isStmt_any a A c W ok (HW.out.below h) (HA.out.below h))
        rw [hsa] at HI
        clear hsa
        refine (HI.out _ B3.out.below).mono ?_
        rintro e w4 ⟨rfl, hb4⟩
        have B4 := Hd.mk (B3.out.next hb4)
        obtain ⟨⟨x0, x1, x2, x3⟩, ⟨y0, y1, y2, y3⟩, hz⟩ := B4.out.facts
        clear hb4
        go_wp2_with fail
        refine (cancels_any a b A B c d _ ok ok' (HW.out.below B4.out.below) (HA.out.below B4.out.below) (HB.out.below B4.out.below)).mono ?_
        rintro e w7 ⟨rfl, hb7⟩
        rw [HC1.out]
        have B7 := Hd.mk (B4.out.next hb7)
        obtain ⟨⟨x0, x1, x2, x3⟩, ⟨y0, y1, y2, y3⟩, hz⟩ := B7.out.facts
        clear hb7
        go_wp2_with fail
        refine (cancels_any b a B A d c _ ok' ok (HW.out.below B7.out.below) (HB.out.below B7.out.below) (HA.out.below B7.out.below)).mono ?_
        rintro e w8 ⟨rfl, hb8⟩
        rw [HC2.out]
        have B8 := Hd.mk (B7.out.next hb8)
        clear hb8
        go_wp2_with fail
        go_ret
        exact ⟨rfl, B8.out.below⟩
      · have HST := Hd.mk hsa
        have HI := Hd.mk (fun W (h : Below w.heap.size w W) => isStmt_any a A c W ok (HW.out.below h) (HA.out.below h))
        rw [hsa] at HI
        cases hsb : b.isStmt
        · have HC1 := Hd.mk (show cancelsB a b = false by rw [cancelsB_eq, hsa, hsb]; rfl)
          have HC2 := Hd.mk (show cancelsB b a = false by rw [HS.out]; exact HC1.out)
          have HJ := Hd.mk (fun W (h : Below w.heap.size w W) => isStmt_any b B d W ok' (HW.out.below h) (HB.out.below h))
          rw [hsb] at HJ
          clear hsa hsb
          refine (HI.out _ B3.out.below).mono ?_
          rintro e w4 ⟨rfl, hb4⟩
          have B4 := Hd.mk (B3.out.next hb4)
          obtain ⟨⟨x0, x1, x2, x3⟩, ⟨y0, y1, y2, y3⟩, hz⟩ := B4.out.facts
          clear hb4
          go_wp2_with fail
          refine (HJ.out _ B4.out.below).mono ?_
          rintro e w5 ⟨rfl, hb5⟩
          have B5 := Hd.mk (B4.out.next hb5)
          obtain ⟨⟨x0, x1, x2, x3⟩, ⟨y0, y1, y2, y3⟩, hz⟩ := B5.out.facts
          clear hb5
          go_wp2_with fail
          refine (cancels_any a b A B c d _ ok ok' (HW.out.below B5.out.below) (HA.out.below B5.out.below) (HB.out.below B5.out.below)).mono ?_
          rintro e w7 ⟨rfl, hb7⟩
          rw [HC1.out]
          have B7 := Hd.mk (B5.out.next hb7)
          obtain ⟨⟨x0, x1, x2, x3⟩, ⟨y0, y1, y2, y3⟩, hz⟩ := B7.out.facts
          clear hb7
          go_wp2_with fail
          refine (cancels_any b a B A d c _ ok' ok (HW.out.below B7.out.below) (HB.out.below B7.out.below) (HA.out.below B7.out.below)).mono ?_
          rintro e w8 ⟨rfl, hb8⟩
          rw [HC2.out]
          have B8 := Hd.mk (B7.out.next hb8)
          clear hb8
          go_wp2_with fail
          go_ret
          exact ⟨rfl, B8.out.below⟩
        · have HJ := Hd.mk (fun W (h : Below w.heap.size w W) => isStmt_any b B d W ok' (HW.out.below h) (HB.out.below h))
          rw [hsb] at HJ
          cases hrc : refCancelsB a b
          · have HC1 := Hd.mk (show cancelsB a b = false by rw [cancelsB_eq, hsa, hsb, hrc]; rfl)
            have HC2 := Hd.mk (show cancelsB b a = false by rw [HS.out]; exact HC1.out)
            have HRC := Hd.mk (fun W (h : Below w.heap.size w W) => refCancels_any a b HST.out A B c d W ok ok' (HA.out.below h) (HB.out.below h))
            rw [hrc] at HRC
            clear hsa hsb hrc
            refine (HI.out _ B3.out.below).mono ?_
            rintro e w4 ⟨rfl, hb4⟩
            have B4 := Hd.mk (B3.out.next hb4)
            obtain ⟨⟨x0, x1, x2, x3⟩, ⟨y0, y1, y2, y3⟩, hz⟩ := B4.out.facts
            clear hb4
            go_wp2_with fail
            refine (HJ.out _ B4.out.below).mono ?_
            rintro e w5 ⟨rfl, hb5⟩
            have B5 := Hd.mk (B4.out.next hb5)
            obtain ⟨⟨x0, x1, x2, x3⟩, ⟨y0, y1, y2, y3⟩, hz⟩ := B5.out.facts
            clear hb5
            go_wp2_with fail
            refine (HRC.out _ B5.out.below).mono ?_
            rintro e w6 ⟨rfl, hb6⟩
            have B6 := Hd.mk (B5.out.next hb6)
            obtain ⟨⟨x0, x1, x2, x3⟩, ⟨y0, y1, y2, y3⟩, hz⟩ := B6.out.facts
            clear hb6
            go_wp2_with fail
            refine (cancels_any a b A B c d _ ok ok' (HW.out.below B6.out.below) (HA.out.below B6.out.below) (HB.out.below B6.out.below)).mono ?_
            rintro e w7 ⟨rfl, hb7⟩
            rw [HC1.out]
            have B7 := Hd.mk (B6.out.next hb7)
            obtain ⟨⟨x0, x1, x2, x3⟩, ⟨y0, y1, y2, y3⟩, hz⟩ := B7.out.facts
            clear hb7
            go_wp2_with fail
            refine (cancels_any b a B A d c _ ok' ok (HW.out.below B7.out.below) (HB.out.below B7.out.below) (HA.out.below B7.out.below)).mono ?_
            rintro e w8 ⟨rfl, hb8⟩
            rw [HC2.out]
            have B8 := Hd.mk (B7.out.next hb8)
            clear hb8
            go_wp2_with fail
            go_ret
            exact ⟨rfl, B8.out.below⟩
          · have HC1 := Hd.mk (show cancelsB a b = true by rw [cancelsB_eq, hsa, hsb, hrc]; rfl)
            have HC2 := Hd.mk (show cancelsB b a = true by rw [HS.out]; exact HC1.out)
            have HRC := Hd.mk (fun W (h : Below w.heap.size w W) => refCancels_any a b HST.out A B c d W ok ok' (HA.out.below h) (HB.out.below h))
            rw [hrc] at HRC
            clear hsa hsb hrc
            refine (HI.out _ B3.out.below).mono ?_
            rintro e w4 ⟨rfl, hb4⟩
            have B4 := Hd.mk (B3.out.next hb4)
            obtain ⟨⟨x0, x1, x2, x3⟩, ⟨y0, y1, y2, y3⟩, hz⟩ := B4.out.facts
            clear hb4
            go_wp2_with fail
            refine (HJ.out _ B4.out.below).mono ?_
            rintro e w5 ⟨rfl, hb5⟩
            have B5 := Hd.mk (B4.out.next hb5)
            obtain ⟨⟨x0, x1, x2, x3⟩, ⟨y0, y1, y2, y3⟩, hz⟩ := B5.out.facts
            clear hb5
            go_wp2_with fail
            refine (HRC.out _ B5.out.below).mono ?_
            rintro e w6 ⟨rfl, hb6⟩
            have B6 := Hd.mk (B5.out.next hb6)
            obtain ⟨⟨x0, x1, x2, x3⟩, ⟨y0, y1, y2, y3⟩, hz⟩ := B6.out.facts
            clear hb6
            go_wp2_with fail
            refine (cancels_any a b A B c d _ ok ok' (HW.out.below B6.out.below) (HA.out.below B6.out.below) (HB.out.below B6.out.below)).mono ?_
            rintro e w7 ⟨rfl, hb7⟩
            rw [HC1.out]
            have B7 := Hd.mk (B6.out.next hb7)
            obtain ⟨⟨x0, x1, x2, x3⟩, ⟨y0, y1, y2, y3⟩, hz⟩ := B7.out.facts
            clear hb7
            go_wp2_with fail
            refine (cancels_any b a B A d c _ ok' ok (HW.out.below B7.out.below) (HB.out.below B7.out.below) (HA.out.below B7.out.below)).mono ?_
            rintro e w8 ⟨rfl, hb8⟩
            rw [HC2.out]
            have B8 := Hd.mk (B7.out.next hb8)
            clear hb8
            go_wp2_with fail
            go_ret
            exact ⟨rfl, B8.out.below⟩
end Go.Proofs.YtgjanglonccclaaDoor
