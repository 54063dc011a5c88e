/- Contract of the law's awake. -/
import Derived.Test.YtgjanglonccclaaDoorLawP
namespace Go.Proofs.YtgjanglonccclaaDoor
open Go.RowKit
set_option linter.unusedVariables false
set_option linter.unusedSimpArgs false

def BlkRet (w : World) (t : Node) (n : Nat) (e : Ending) (w' : World) : Prop :=
  ∃ A c m s, e = .returned (.agg #[.int .u8 57, .int .i64 m, .string s, .slice A n c]) ∧ Below w.heap.size w w'
theorem known_any (t : Node) (n : Nat) (hk : (blockB t).kind = 57) (hn : (blockB t).kids.length = n) (A : Option Addr) (c : Nat) (w : World) (ok : Nat → Prop) (hw : Good w) (h : t.In w ok A c) :
    Calls Tryd.prog 17 #[.agg #[.int .u8 t.kind, .int .i64 t.num, .string t.name, .slice A t.kids.length c]] w (BlkRet w t n) := by
  refine (Block_any t A c w ok hw h).mono ?_
  rintro e w1 ⟨A1, c1, rfl, hb, _⟩
  exact ⟨A1, c1, (blockB t).num, (blockB t).name, by rw [hk, hn], hb⟩
theorem blockB_b2k : (blockB b2).kind = 57 := by decide +kernel
theorem blockB_b3k : (blockB b3).kind = 57 := by decide +kernel

set_option maxHeartbeats 4000000 in
set_option maxRecDepth 100000 in
theorem awake_any (w : World) (hw : Good w) : Calls Tryd.prog 10 #[] w fun e w' => e = .returned (.bool true) ∧ Below w.heap.size w w' := by
  have HW := Hd.mk hw
  clear hw
  go_enter Tryd.func10, Tryd.ntmps10
  go_wp2_with fail
  refine (op_any 40 sx (by omega) (by omega) (by simp [sx, ByteArray.size]) _).mono ?_
  rintro e p10 ⟨A10, c10, rfl, hb, hi⟩
  have HB10 := Hd.mk hb
  have HI10 := Hd.mk hi
  clear hb hi
  go_wp2_with fail
  refine (op_any 42 sy (by omega) (by omega) (by simp [sy, ByteArray.size]) _).mono ?_
  rintro e p11 ⟨A11, c11, rfl, hb, hi⟩
  have HB11 := Hd.mk hb
  have HI11 := Hd.mk hi
  clear hb hi
  go_wp2_with fail
  refine (op_any 42 sy (by omega) (by omega) (by simp [sy, ByteArray.size]) _).mono ?_
  rintro e p12 ⟨A12, c12, rfl, hb, hi⟩
  have HB12 := Hd.mk hb
  have HI12 := Hd.mk hi
  clear hb hi
  go_wp2_with fail
  refine (op_any 41 sx (by omega) (by omega) (by simp [sx, ByteArray.size]) _).mono ?_
  rintro e p13 ⟨A13, c13, rfl, hb, hi⟩
  have HB13 := Hd.mk hb
  have HI13 := Hd.mk hi
  clear hb hi
  go_wp2_with fail
  refine (lawBlock_any b1.kids (some ⟨p13.heap.size, 0, none⟩) 4 _).mono ?_
  rintro e v1 ⟨rfl, hb⟩
  have hin := In_new (w1 := p13) (X := fun _ => False) (u := b1) (hs := [⟨A10, c10, fun _ => True⟩, ⟨A11, c11, fun _ => True⟩, ⟨A12, c12, fun _ => True⟩, ⟨A13, c13, fun _ => True⟩]) (cs := #[.int .u8 (opN 40 sx).kind, .int .i64 (opN 40 sx).num, .string (opN 40 sx).name, .slice A10 (opN 40 sx).kids.length c10, .int .u8 (opN 42 sy).kind, .int .i64 (opN 42 sy).num, .string (opN 42 sy).name, .slice A11 (opN 42 sy).kids.length c11, .int .u8 (opN 42 sy).kind, .int .i64 (opN 42 sy).num, .string (opN 42 sy).name, .slice A12 (opN 42 sy).kids.length c12, .int .u8 (opN 41 sx).kind, .int .i64 (opN 41 sx).num, .string (opN 41 sx).name, .slice A13 (opN 41 sx).kids.length c13])
    ⟨by simp [b1], by simp [b1], by simp [b1], by simp [b1], by simp [b1, ByteArray.size]⟩ (by simp [b1]) rfl (fun j h2 h3 => by
      rcases (show j = 0 ∨ j = 1 ∨ j = 2 ∨ j = 3 by simp [b1] at h2; omega) with rfl | rfl | rfl | rfl
      · exact Node.In.move (fun _ _ _ => rfl) (fun _ _ _ h => h) _ (HI10.out.below (ext_trans (ext_trans (ext_trans (Below.refl _ _) HB11.out) HB12.out) HB13.out))
      · exact Node.In.move (fun _ _ _ => rfl) (fun _ _ _ h => h) _ (HI11.out.below (ext_trans (ext_trans (Below.refl _ _) HB12.out) HB13.out))
      · exact Node.In.move (fun _ _ _ => rfl) (fun _ _ _ h => h) _ (HI12.out.below (ext_trans (Below.refl _ _) HB13.out))
      · exact Node.In.move (fun _ _ _ => rfl) (fun _ _ _ h => h) _ (HI13.out.below (Below.refl _ _))) (fun h => h) rfl
  have HIN1 := Hd.mk (hin.below hb)
  have HV1 := Hd.mk (ext_trans (ext_alloc (ext_trans (ext_trans (ext_trans (HB10.out) HB11.out) HB12.out) HB13.out) _) hb)
  clear hb hin
  go_wp2_with fail
  refine (known_any b1 0 blockB_b1.1 blockB_b1.2 _ _ _ _ (HW.out.below (ext_trans (Below.refl w.heap.size w) HV1.out)) HIN1.out).mono ?_
  rintro e u1 ⟨R1, d1, m1, s1, rfl, hb⟩
  have HU1 := Hd.mk (ext_trans HV1.out hb)
  have HX1 := Hd.mk (heap_alloc_new u1 (.cells #[.int .u8 57, .int .i64 m1, .string s1, .slice R1 0 d1] 24))
  have HE1 := Hd.mk (ext_alloc (ext_trans (Below.refl w.heap.size w) HU1.out) (.cells #[.int .u8 57, .int .i64 m1, .string s1, .slice R1 0 d1] 24))
  clear hb
  go_wp2_with fail
  refine (op_any 56 sx (by omega) (by omega) (by simp [sx, ByteArray.size]) _).mono ?_
  rintro e p20 ⟨A20, c20, rfl, hb, hi⟩
  have HB20 := Hd.mk hb
  have HI20 := Hd.mk hi
  clear hb hi
  go_wp2_with fail
  refine (op_any 56 sx (by omega) (by omega) (by simp [sx, ByteArray.size]) _).mono ?_
  rintro e p21 ⟨A21, c21, rfl, hb, hi⟩
  have HB21 := Hd.mk hb
  have HI21 := Hd.mk hi
  clear hb hi
  go_wp2_with fail
  refine (lawBlock_any b2.kids (some ⟨p21.heap.size, 0, none⟩) 2 _).mono ?_
  rintro e v2 ⟨rfl, hb⟩
  have hin := In_new (w1 := p21) (X := fun _ => False) (u := b2) (hs := [⟨A20, c20, fun _ => True⟩, ⟨A21, c21, fun _ => True⟩]) (cs := #[.int .u8 (opN 56 sx).kind, .int .i64 (opN 56 sx).num, .string (opN 56 sx).name, .slice A20 (opN 56 sx).kids.length c20, .int .u8 (opN 56 sx).kind, .int .i64 (opN 56 sx).num, .string (opN 56 sx).name, .slice A21 (opN 56 sx).kids.length c21])
    ⟨by simp [b2], by simp [b2], by simp [b2], by simp [b2], by simp [b2, ByteArray.size]⟩ (by simp [b2]) rfl (fun j h2 h3 => by
      rcases (show j = 0 ∨ j = 1 by simp [b2] at h2; omega) with rfl | rfl
      · exact Node.In.move (fun _ _ _ => rfl) (fun _ _ _ h => h) _ (HI20.out.below (ext_trans (Below.refl _ _) HB21.out))
      · exact Node.In.move (fun _ _ _ => rfl) (fun _ _ _ h => h) _ (HI21.out.below (Below.refl _ _))) (fun h => h) rfl
  have HIN2 := Hd.mk (hin.below hb)
  have HV2 := Hd.mk (ext_trans (ext_alloc (ext_trans (HB20.out) HB21.out) _) hb)
  clear hb hin
  go_wp2_with fail
  refine (known_any b2 2 blockB_b2k blockB_b2 _ _ _ _ (HW.out.below (ext_trans HE1.out HV2.out)) HIN2.out).mono ?_
  rintro e u2 ⟨R2, d2, m2, s2, rfl, hb⟩
  have HU2 := Hd.mk (ext_trans HV2.out hb)
  have HX2 := Hd.mk (heap_alloc_new u2 (.cells #[.int .u8 57, .int .i64 m2, .string s2, .slice R2 2 d2] 24))
  have HE2 := Hd.mk (ext_alloc (ext_trans HE1.out HU2.out) (.cells #[.int .u8 57, .int .i64 m2, .string s2, .slice R2 2 d2] 24))
  clear hb
  go_wp2_with fail
  refine (op_any 40 sx (by omega) (by omega) (by simp [sx, ByteArray.size]) _).mono ?_
  rintro e p30 ⟨A30, c30, rfl, hb, hi⟩
  have HB30 := Hd.mk hb
  have HI30 := Hd.mk hi
  clear hb hi
  go_wp2_with fail
  refine (op_any 40 sx (by omega) (by omega) (by simp [sx, ByteArray.size]) _).mono ?_
  rintro e p31 ⟨A31, c31, rfl, hb, hi⟩
  have HB31 := Hd.mk hb
  have HI31 := Hd.mk hi
  clear hb hi
  go_wp2_with fail
  refine (lawBlock_any b3.kids (some ⟨p31.heap.size, 0, none⟩) 2 _).mono ?_
  rintro e v3 ⟨rfl, hb⟩
  have hin := In_new (w1 := p31) (X := fun _ => False) (u := b3) (hs := [⟨A30, c30, fun _ => True⟩, ⟨A31, c31, fun _ => True⟩]) (cs := #[.int .u8 (opN 40 sx).kind, .int .i64 (opN 40 sx).num, .string (opN 40 sx).name, .slice A30 (opN 40 sx).kids.length c30, .int .u8 (opN 40 sx).kind, .int .i64 (opN 40 sx).num, .string (opN 40 sx).name, .slice A31 (opN 40 sx).kids.length c31])
    ⟨by simp [b3], by simp [b3], by simp [b3], by simp [b3], by simp [b3, ByteArray.size]⟩ (by simp [b3]) rfl (fun j h2 h3 => by
      rcases (show j = 0 ∨ j = 1 by simp [b3] at h2; omega) with rfl | rfl
      · exact Node.In.move (fun _ _ _ => rfl) (fun _ _ _ h => h) _ (HI30.out.below (ext_trans (Below.refl _ _) HB31.out))
      · exact Node.In.move (fun _ _ _ => rfl) (fun _ _ _ h => h) _ (HI31.out.below (Below.refl _ _))) (fun h => h) rfl
  have HIN3 := Hd.mk (hin.below hb)
  have HV3 := Hd.mk (ext_trans (ext_alloc (ext_trans (HB30.out) HB31.out) _) hb)
  clear hb hin
  go_wp2_with fail
  refine (known_any b3 2 blockB_b3k blockB_b3 _ _ _ _ (HW.out.below (ext_trans HE2.out HV3.out)) HIN3.out).mono ?_
  rintro e u3 ⟨R3, d3, m3, s3, rfl, hb⟩
  have HU3 := Hd.mk (ext_trans HV3.out hb)
  have HX3 := Hd.mk (heap_alloc_new u3 (.cells #[.int .u8 57, .int .i64 m3, .string s3, .slice R3 2 d3] 24))
  have HE3 := Hd.mk (ext_alloc (ext_trans HE2.out HU3.out) (.cells #[.int .u8 57, .int .i64 m3, .string s3, .slice R3 2 d3] 24))
  clear hb
  have hb1 : u3.heap[u1.heap.size]? = _ := ((ext_trans (ext_alloc HU2.out (.cells #[.int .u8 57, .int .i64 m2, .string s2, .slice R2 2 d2] 24)) HU3.out).block _ (by simp)).trans HX1.out
  have hb2 : u3.heap[u2.heap.size]? = _ := (HU3.out.block _ (by simp)).trans HX2.out
  obtain ⟨x0, x1, x2, x3⟩ := four_cells hb1
  obtain ⟨y0, y1, y2, y3⟩ := four_cells hb2
  have hl1 := World.block_lt_of_cell? _ _ x0
  have hl2 := World.block_lt_of_cell? _ _ y0
  clear hb1 hb2
  go_wp2_with fail
  refine (op_any 40 sx (by omega) (by omega) (by simp [sx, ByteArray.size]) _).mono ?_
  rintro e q1 ⟨Aq1, cq1, rfl, hb, hi⟩
  have HQ1 := Hd.mk (ext_trans HE3.out hb)
  have HI1 := Hd.mk hi
  clear hb hi
  go_wp2_with fail
  refine (op_any 41 sx (by omega) (by omega) (by simp [sx, ByteArray.size]) _).mono ?_
  rintro e q2 ⟨Aq2, cq2, rfl, hb, hi⟩
  have HQ2 := Hd.mk (ext_trans HQ1.out hb)
  have HJ1 := Hd.mk (HI1.out.below hb)
  have HI2 := Hd.mk hi
  clear hb hi
  go_wp2_with fail
  refine (cancels_any (opN 40 sx) (opN 41 sx) Aq1 Aq2 cq1 cq2 _ _ _ (HW.out.below HQ2.out) HJ1.out HI2.out).mono ?_
  rintro e q3 ⟨rfl, hb⟩
  have HQ3 := Hd.mk (ext_trans HQ2.out hb)
  rw [cancels_known]
  clear hb
  go_wp2_with fail
  go_ret
  exact ⟨rfl, HQ3.out⟩
end Go.Proofs.YtgjanglonccclaaDoor
