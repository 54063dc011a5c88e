/- Contract of simplify.each. -/
import Derived.Test.YtgjanglonccclaaDoorSim1
import Derived.Test.YtgjanglonccclaaDoorOwn3
import Derived.Deep.RegionHeld3
namespace Go.Proofs.YtgjanglonccclaaDoor
open Go.RowKit
set_option linter.unusedVariables false
set_option linter.unusedSimpArgs false

def SimRuns (t : Node) : Prop := ∀ (A : Option Addr) (c : Nat) (w : World) (ok : Nat → Prop), Good w → t.In w ok A c → Calls Tryd.prog 42 #[.agg #[.int .u8 t.kind, .int .i64 t.num, .string t.name, .slice A t.kids.length c]] w (Fresh w t.simp)
theorem goes_block : Goes 42 := goes_of Tryd.func42 (by kernel_rfl) rfl

structure EachInv (w W : World) (t : Node) (A : Option Addr) (c : Nat) (Bo : Nat) (A2 : Option Addr) (c2 : Nat) (cur : List Node) : Prop where
  boxes : Boxes w W t A c
  lo : w.heap.size + 2 ≤ Bo
  hi : Bo < W.heap.size
  out : W.heap[Bo]? = some (.cells #[.int .u8 t.kind, .int .i64 t.num, .string t.name, .slice A2 t.kids.length c2] 24)
  parts : ∃ hs, OwnParts W cur ⟨A2, c2, fun x => w.heap.size + 2 ≤ x ∧ x ≠ Bo⟩ hs
theorem EachInv.next {w W W2 : World} {t : Node} {A : Option Addr} {c : Nat} {Bo : Nat} {A2 : Option Addr} {c2 : Nat} {cur : List Node} (E : EachInv w W t A c Bo A2 c2 cur) (h : Below W.heap.size W W2) : EachInv w W2 t A c Bo A2 c2 cur := by
  obtain ⟨hs, p⟩ := E.parts
  exact ⟨E.boxes.next h, E.lo, Nat.lt_of_lt_of_le E.hi h.size, by rw [h.block _ E.hi]; exact E.out, hs, p.below h⟩
theorem EachInv.len {w W : World} {t : Node} {A : Option Addr} {c : Nat} {Bo : Nat} {A2 : Option Addr} {c2 : Nat} {cur : List Node} (E : EachInv w W t A c Bo A2 c2 cur) (hl : cur.length = t.kids.length) (j : Nat) (hj : j < t.kids.length) :
    ∃ g, A2 = some ⟨g, 0, none⟩ ∧ g < W.heap.size ∧ w.heap.size + 2 ≤ g ∧ g ≠ Bo ∧ (∀ i, W.frozen? ⟨g, i, none⟩ = false) ∧ (∃ v0 v1 v2 v3, W.cell? ⟨g, j * 4, none⟩ = some v0 ∧ W.cell? ⟨g, j * 4 + 1, none⟩ = some v1 ∧ W.cell? ⟨g, j * 4 + 2, none⟩ = some v2 ∧ W.cell? ⟨g, j * 4 + 3, none⟩ = some v3) := by
  obtain ⟨hs, p⟩ := E.parts
  obtain ⟨g, h2, hA, hF, hg, hf, e0, e1, e2, e3, e4⟩ := p.at_ j (by omega)
  exact ⟨g, hA, hg, hF.1, hF.2, hf, _, _, _, _, e0, e1, e2, e3⟩

theorem EachInv.put {w W W2 : World} {t : Node} {A : Option Addr} {c : Nat} {Bo : Nat} {A2 : Option Addr} {c2 : Nat} {cur : List Node} (E : EachInv w W t A c Bo A2 c2 cur) (hb : Below W.heap.size W W2) {g : Nat} (hA : A2 = some ⟨g, 0, none⟩) (hg : w.heap.size + 2 ≤ g) (hgB : g ≠ Bo) (j : Nat) (hj : j < cur.length)
    (u : Node) {A3 : Option Addr} {c3 N : Nat} (hN : W.heap.size ≤ N) (ho : u.Own W2 ⟨A3, c3, fun x => N ≤ x⟩) : EachInv w (set4 W2 g (j * 4) u ⟨A3, c3, fun x => N ≤ x⟩) t A c Bo A2 c2 (cur.set j u) := by
  obtain ⟨hs, p⟩ := E.parts
  have B := E.boxes.next hb
  have hi := E.hi
  have lo := E.lo
  have hsz := hb.size
  have p2 := p.tight.below hb
  have p3 := p2.put hA j hj u ⟨A3, c3, fun x => N ≤ x⟩ ho (fun x hx hF => by have h1 : N ≤ x := hx; have := hF.2; omega)
  refine ⟨⟨set4_below B.below (by omega) _ _, by rw [set4_size]; exact B.size, by rw [set4_other (by omega)]; exact B.box, by rw [set4_other (by omega)]; exact B.res⟩, lo, by rw [set4_size]; omega, by rw [set4_other (by omega), hb.block _ hi]; exact E.out, _, p3.mono (fun x hx => ?_)⟩
  rcases hx with hx | hx
  · exact hx.1
  · have h1 : N ≤ x := hx; omega

set_option maxHeartbeats 4000000 in
set_option maxRecDepth 100000 in
theorem each_any (t : Node) (ih : ∀ k ∈ t.kids, (k.kind == 57) = true → SimRuns k) (A : Option Addr) (c : Nat) (w : World) (ok : Nat → Prop) (hw : Good w) (h : t.In w ok A c) :
    Calls Tryd.prog 61 #[.agg #[.int .u8 t.kind, .int .i64 t.num, .string t.name, .slice A t.kids.length c], .func (.func 42) #[] #[]] w (Fresh w t.eachS) := by
  have HC := Hd.mk (fun W (hb : Below w.heap.size w W) => clone_any t A c W ok (h.below hb))
  have B0 := Hd.mk (Boxes.start w t A c)
  have H := Hd.mk h
  have HW := Hd.mk hw
  have IH := Hd.mk ih
  have hl := h.lenZ
  have hgo := goes_block
  unfold Goes at hgo
  clear h hw ih
  go_enter Tryd.func61, Tryd.ntmps61
  go_wp2_with fail
  refine (HC.out _ B0.out.below).mono ?_
  rintro e w1 ⟨A2, c2, rfl, hb1, ho1⟩
  have B1 := Hd.mk (B0.out.next hb1)
  have B2 := Hd.mk (B1.out.next (ext_alloc (Below.refl _ _) (.cells #[.int .u8 t.kind, .int .i64 t.num, .string t.name, .slice A2 t.kids.length c2] 24)))
  have E0 : EachInv w (w1.alloc (.cells #[.int .u8 t.kind, .int .i64 t.num, .string t.name, .slice A2 t.kids.length c2] 24)) t A c w1.heap.size A2 c2 t.kids := by
    have hs := B1.out.size
    obtain ⟨hfit, hlen, hd, p⟩ := Node.Own_eq.1 (Node.Own.tight _ ho1)
    refine ⟨B2.out, by omega, by simp, (Go.MapKept.heap_alloc w1 _).1, hd, ?_⟩
    exact (p.below (ext_alloc (Below.refl _ _) _)).mono (fun x hx => ⟨by have := hx.1; simp at this; omega, by have := hx.2; omega⟩)
  have HE := Hd.mk E0
  obtain ⟨⟨x0, x1, x2, x3⟩, _⟩ := B1.out.facts
  have hz : w.heap.size < w1.heap.size := by have := B1.out.size; omega
  clear E0 ho1 hb1
  go_wp2_with fail
  go_loopw [6, 7, 13] (fun v6 v7 v13 W => ∃ j : Nat, j ≤ t.kids.length ∧ v13 = .int .i64 j ∧ EachInv w W t A c w1.heap.size A2 c2 (mixAt simpB t.kids j)) (fun _ _ v13 _ => t.kids.length - (intOf v13).toNat)
  case atStart => exact ⟨0, Nat.zero_le _, rfl, by rw [mixAt_zero]; exact HE.out⟩
  case round =>
    obtain ⟨j, hj, rfl, E⟩ := hrel
    by_cases hlt : j < t.kids.length
    · obtain ⟨b, o, A1, c1, rfl, e0, e1, e2, e3, h4⟩ := (H.out.below E.boxes.below).at_ j hlt
      cases hkj : (t.kids[j].kind == 57)
      · go_wp2_with fail
        go_roundw
        case rel =>
          refine ⟨j + 1, hlt, by go_num, ?_⟩
          rw [← mixAt_skip simpB t.kids j hlt (by simp [simpB, hkj])]
          exact E.next (ext_alloc (Below.refl _ _) _)
        case measure => simp [intOf]; omega
      · obtain ⟨g, rfl, hg, hg2, hgB, hfr, v0, v1, v2, v3, q0, q1, q2, q3⟩ := E.len (mixAt_length _ _ _) j hlt
        obtain ⟨o0, o1, o2, o3⟩ := four_cells E.out
        have HI := Hd.mk (IH.out t.kids[j] (List.getElem_mem _) hkj)
        have r0 := hfr (j * 4)
        have r1 := hfr (j * 4 + 1)
        have r2 := hfr (j * 4 + 2)
        have r3 := hfr (j * 4 + 3)
        have HE2 := Hd.mk E
        have hBo := E.hi
        have hlo := E.lo
        have HFR := Hd.mk hfr
        have j0 : (0 : Int) ≤ (j : Int) := by omega
        have j1 : (j : Int) < (t.kids.length : Int) := by omega
        clear E hfr
        go_wp2_with fail
        have hgw : g ≠ wr.heap.size := by omega
        go_region_held3 (fun W' => W'.cell? ⟨w1.heap.size, 3, none⟩ = some (.slice (some ⟨g, 0, none⟩) t.kids.length c2) ∧ W'.cell? ⟨wr.heap.size, 0, none⟩ = some (.int .u8 t.kids[j].kind) ∧ W'.cell? ⟨wr.heap.size, 1, none⟩ = some (.int .i64 t.kids[j].num) ∧
          W'.cell? ⟨wr.heap.size, 2, none⟩ = some (.string t.kids[j].name) ∧ W'.cell? ⟨wr.heap.size, 3, none⟩ = some (.slice A1 t.kids[j].kids.length c1))
          (go_keep)
          (first
            | (go_at_call 42; refine (HI.out A1 c1 _ ok (HW.out.below (ext_trans HE2.out.boxes.below ((ext_alloc (Below.refl _ _) _).drew))) (h4.below ((ext_alloc (Below.refl _ _) _).drew))).mono ?_; rintro e w2 ⟨A3, c3, rfl, hb2, ho2⟩; have hbw : Below wr.heap.size wr w2 := ext_trans ((ext_alloc (Below.refl _ _) _).drew) hb2; have y0 := (hbw.cell (p := ⟨w1.heap.size, 3, none⟩) hBo).trans o3; obtain ⟨z0, z1, z2, z3⟩ := box_cells (ext_trans ((Below.refl _ _).drew) hb2); have s0 := (hbw.cell (p := ⟨g, j * 4, none⟩) hg).trans q0; have s1 := (hbw.cell (p := ⟨g, j * 4 + 1, none⟩) hg).trans q1; have s2 := (hbw.cell (p := ⟨g, j * 4 + 2, none⟩) hg).trans q2; have s3 := (hbw.cell (p := ⟨g, j * 4 + 3, none⟩) hg).trans q3; have t0 := (hbw.frozen (p := ⟨g, j * 4, none⟩) hg).trans r0; have t1 := (hbw.frozen (p := ⟨g, j * 4 + 1, none⟩) hg).trans r1; have t2 := (hbw.frozen (p := ⟨g, j * 4 + 2, none⟩) hg).trans r2; have t3 := (hbw.frozen (p := ⟨g, j * 4 + 3, none⟩) hg).trans r3))
        go_wp2_with fail
        go_roundw
        case rel =>
          refine ⟨j + 1, hlt, by go_num, ?_⟩
          rw [← mixAt_set simpB t.kids j hlt]
          have e6 : simpB t.kids[j] = t.kids[j].simp := by simp [simpB, hkj]
          rw [e6]
          exact HE2.out.put hbw rfl hg2 hgB j (by rw [mixAt_length]; exact hlt) _ (by simp [World.drew]) ho2
        case measure => simp [intOf]; omega
    · have : j = t.kids.length := by omega
      subst this
      rw [mixAt_full] at E
      obtain ⟨o0, o1, o2, o3⟩ := four_cells E.out
      obtain ⟨⟨x0, x1, x2, x3⟩, ⟨y0, y1, y2, y3⟩, ⟨f0, f1, f2, f3⟩, hz2⟩ := E.boxes.facts
      have HE2 := Hd.mk E
      have hlo := E.lo
      clear E
      go_wp2_with fail
      obtain ⟨hs, p⟩ := HE2.out.parts
      have hlen : (t.kids.map simpB).length = t.kids.length := by simp
      have hf := H.out.fits
      have hown : t.eachS.Own wr ⟨A2, c2, fun x => w.heap.size + 2 ≤ x⟩ := by
        rw [Node.eachS_eq, Node.Own_eq]
        exact ⟨⟨hf.kind0, hf.kind1, hf.num0, hf.num1, hf.name⟩, by simp only [hlen]; omega, hs, p.mono (fun x hx => hx.1)⟩
      have ek : t.eachS.kind = t.kind ∧ t.eachS.num = t.num ∧ t.eachS.name = t.name ∧ t.eachS.kids.length = t.kids.length := by rw [Node.eachS_eq]; simp
      refine bodyPost_ret (v := .agg #[.int .u8 t.eachS.kind, .int .i64 t.eachS.num, .string t.eachS.name, .slice A2 t.eachS.kids.length c2]) ?_ rfl ⟨A2, c2, rfl, ?_, ?_⟩
      · rw [ek.1, ek.2.1, ek.2.2.1, ek.2.2.2]
        have hc := res_cells (u0 := .int .u8 t.kind) (u1 := .int .i64 t.num) (u2 := .string t.name) (u3 := .slice A2 t.kids.length c2) HE2.out.boxes.res
        simp [results, Tryd.results61, go_sem, hc]
      · exact res_below HE2.out.boxes.below (by omega) _ _ _ _
      · exact Node.Own.mono (res_own hown (fun h => by have : w.heap.size + 2 ≤ w.heap.size + 1 := h; omega)) (fun x hx => by have : w.heap.size + 2 ≤ x := hx; omega)
end Go.Proofs.YtgjanglonccclaaDoor
