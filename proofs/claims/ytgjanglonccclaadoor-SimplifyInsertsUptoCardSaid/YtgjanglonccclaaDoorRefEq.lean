/- Contract of the reference's Equal. -/
import Derived.Test.YtgjanglonccclaaDoorSim2
namespace Go.Proofs.YtgjanglonccclaaDoor
open Go.RowKit
set_option linter.unusedVariables false
set_option linter.unusedSimpArgs false

def RefEqRuns (a : Node) : Prop := ∀ (b : Node) (A B : Option Addr) (c d : Nat) (w : World) (ok ok' : Nat → Prop), a.In w ok A c → b.In w ok' B d →
  Calls Tryd.prog 18 #[.agg #[.int .u8 a.kind, .int .i64 a.num, .string a.name, .slice A a.kids.length c], .agg #[.int .u8 b.kind, .int .i64 b.num, .string b.name, .slice B b.kids.length d]] w fun e w' => e = .returned (.bool (a.eqB b)) ∧ Below w.heap.size w w'

set_option maxHeartbeats 1000000 in
theorem refEqual_any (a : Node) : RefEqRuns a := by
  induction a using Node.ind with
  | h a ih =>
  intro b A B c d w ok ok' ha hb
  have B0 := Hd.mk (Boxes2.start w a A c b B d)
  have HX := Hd.mk (a.eqB_eq b)
  have IH := Hd.mk ih
  have HA := Hd.mk ha
  have HB := Hd.mk hb
  have hl := ha.lenZ
  have hm := hb.lenZ
  clear ha hb ih
  cases a0 : (a.kind == b.kind)
  · have n0 : (a.kind != b.kind) = true := by simp [bne, a0]
    go_enter Tryd.func18, Tryd.ntmps18
    go_wp2_with fail
    go_ret
    exact ⟨ret_bool (by rw [HX.out, a0]; rfl), B0.out.below⟩
  · have n0 : (a.kind != b.kind) = false := by simp [bne, a0]
    cases a1 : (a.num == b.num)
    · have n1 : (a.num != b.num) = true := by simp [bne, a1]
      go_enter Tryd.func18, Tryd.ntmps18
      go_wp2_with fail
      go_ret
      exact ⟨ret_bool (by rw [HX.out, a0, a1]; rfl), B0.out.below⟩
    · have n1 : (a.num != b.num) = false := by simp [bne, a1]
      cases a2 : (a.name.toList == b.name.toList)
      · have n2 : (a.name.toList != b.name.toList) = true := by simp [bne, a2]
        go_enter Tryd.func18, Tryd.ntmps18
        go_wp2_with fail
        go_ret
        exact ⟨ret_bool (by rw [HX.out, a0, a1, strB, a2]; rfl), B0.out.below⟩
      · have n2 : (a.name.toList != b.name.toList) = false := by simp [bne, a2]
        cases a3 : ((a.kids.length : Int) != (b.kids.length : Int))
        · have HL := Hd.mk (show a.kids.length = b.kids.length by simp at a3; omega)
          have HR := Hd.mk (show a.eqB b = eqsB a.kids b.kids by rw [HX.out, a0, a1, strB, a2]; rfl)
          go_enter Tryd.func18, Tryd.ntmps18
          go_wp2_with fail
          go_loopw [5] (fun v5 W => ∃ j : Nat, j ≤ a.kids.length ∧ v5 = .int .i64 j ∧ Hd (∀ i (h1 : i < a.kids.length) (h2 : i < b.kids.length), i < j → a.kids[i].eqB b.kids[i] = true) ∧ Boxes2 w W a A c b B d) (fun v5 _ => a.kids.length - (intOf v5).toNat)
          case atStart => exact ⟨0, Nat.zero_le _, rfl, ⟨fun i _ _ h => by omega⟩, B0.out⟩
          case round =>
            obtain ⟨j, hj, rfl, HS, BX⟩ := hrel
            obtain ⟨⟨x0, x1, x2, x3⟩, ⟨y0, y1, y2, y3⟩, hz⟩ := BX.facts
            have BX2 := Hd.mk BX
            by_cases hlt : j < a.kids.length
            · have hlt2 : j < b.kids.length := by have := HL.out; omega
              obtain ⟨b1, o1, A1, c1, rfl, e0, e1, e2, e3, h4⟩ := (HA.out.below BX.below).at_ j hlt
              obtain ⟨b2, o2, B1, d1, rfl, g0, g1, g2, g3, h5⟩ := (HB.out.below BX.below).at_ j hlt2
              have HI := Hd.mk (fun W (hb : Below wr.heap.size wr W) => IH.out a.kids[j] (List.getElem_mem _) b.kids[j] A1 B1 c1 d1 W ok ok' (h4.below hb) (h5.below hb))
              have q0 := World.block_lt_of_cell? _ _ g0
              have q1 := World.block_lt_of_cell? _ _ e0
              have q2 := World.block_lt_of_cell? _ _ x0
              have q3 := World.block_lt_of_cell? _ _ y0
              have z0 : (0 : Int) ≤ (j : Int) := by omega
              have z1 : (j : Int) < (a.kids.length : Int) := by omega
              have z2 : (j : Int) < (b.kids.length : Int) := by omega
              obtain ⟨r, hr⟩ : ∃ r, a.kids[j].eqB b.kids[j] = r := ⟨_, rfl⟩
              rw [hr] at HI
              have HRr := Hd.mk hr
              clear hr h4 h5 BX
              go_wp2_with fail
              go_region_held3 (fun W' => (W'.cell? ⟨w.heap.size, 3, none⟩ = some (.slice (some ⟨b1, o1, none⟩) a.kids.length c) ∧ W'.cell? ⟨w.heap.size + 1, 3, none⟩ = some (.slice (some ⟨b2, o2, none⟩) b.kids.length d)) ∧
                (W'.cell? ⟨b1, o1 + j * 4, none⟩ = some (.int .u8 a.kids[j].kind) ∧ W'.cell? ⟨b1, o1 + j * 4 + 1, none⟩ = some (.int .i64 a.kids[j].num) ∧ W'.cell? ⟨b1, o1 + j * 4 + 2, none⟩ = some (.string a.kids[j].name) ∧ W'.cell? ⟨b1, o1 + j * 4 + 3, none⟩ = some (.slice A1 a.kids[j].kids.length c1)) ∧
                (W'.cell? ⟨b2, o2 + j * 4, none⟩ = some (.int .u8 b.kids[j].kind) ∧ W'.cell? ⟨b2, o2 + j * 4 + 1, none⟩ = some (.int .i64 b.kids[j].num) ∧ W'.cell? ⟨b2, o2 + j * 4 + 2, none⟩ = some (.string b.kids[j].name) ∧ W'.cell? ⟨b2, o2 + j * 4 + 3, none⟩ = some (.slice B1 b.kids[j].kids.length d1)))
                (go_keep)
                (first
                  | (go_at_call 18; refine (HI.out _ ((Below.refl _ _).drew)).mono ?_; rintro e w1 ⟨rfl, hb1⟩; have hbw : Below wr.heap.size wr w1 := ext_trans ((Below.refl _ _).drew) hb1; have s0 := (hbw.cell (p := ⟨w.heap.size, 3, none⟩) q2).trans x3; have s1 := (hbw.cell (p := ⟨w.heap.size + 1, 3, none⟩) q3).trans y3; have t0 := (hbw.cell (p := ⟨b1, o1 + j * 4, none⟩) q1).trans e0; have t1 := (hbw.cell (p := ⟨b1, o1 + j * 4 + 1, none⟩) q1).trans e1; have t2 := (hbw.cell (p := ⟨b1, o1 + j * 4 + 2, none⟩) q1).trans e2; have t3 := (hbw.cell (p := ⟨b1, o1 + j * 4 + 3, none⟩) q1).trans e3; have u0 := (hbw.cell (p := ⟨b2, o2 + j * 4, none⟩) q0).trans g0; have u1 := (hbw.cell (p := ⟨b2, o2 + j * 4 + 1, none⟩) q0).trans g1; have u2 := (hbw.cell (p := ⟨b2, o2 + j * 4 + 2, none⟩) q0).trans g2; have u3 := (hbw.cell (p := ⟨b2, o2 + j * 4 + 3, none⟩) q0).trans g3))
              have HW1 := Hd.mk hbw
              clear hbw
              cases r
              · go_wp2_with fail
                go_ret
                exact ⟨ret_bool (by rw [HR.out]; exact (eqsB_hit hlt hlt2 HRr.out).symm), ext_trans BX2.out.below HW1.out⟩
              · go_wp2_with fail
                go_roundw
                case rel =>
                  refine ⟨j + 1, hlt, by go_num, ⟨fun i h1 h2 h3 => ?_⟩, BX2.out.next HW1.out⟩
                  rcases Nat.lt_or_ge i j with h | h
                  · exact HS.out i h1 h2 h
                  · obtain rfl : i = j := by omega
                    exact HRr.out
                case measure => simp [intOf]; omega
            · have : j = a.kids.length := by omega
              subst this
              go_wp2_with fail
              go_ret
              exact ⟨ret_bool (by rw [HR.out]; exact (eqsB_all HL.out (fun i h1 h2 => HS.out i h1 h2 h1)).symm), BX2.out.below⟩
        · have HR := Hd.mk (show a.eqB b = eqsB a.kids b.kids by rw [HX.out, a0, a1, strB, a2]; rfl)
          have HF := Hd.mk (@eqsB_len a.kids b.kids (by simp at a3; omega))
          go_enter Tryd.func18, Tryd.ntmps18
          go_wp2_with fail
          go_ret
          exact ⟨ret_bool (by rw [HR.out, HF.out]), B0.out.below⟩
end Go.Proofs.YtgjanglonccclaaDoor
