/- The law SimplifyInverts: its walk. -/
import Derived.Test.YtgjanglonccclaaDoorAwake
import Derived.Test.YtgjanglonccclaaDoorRedP
import Derived.Test.YtgjanglonccclaaDoorBxs
namespace Go.Proofs.YtgjanglonccclaaDoor
open Go.RowKit
set_option linter.unusedVariables false
set_option linter.unusedSimpArgs false

theorem inv_pack {t : Node} (h : t.isBlock = true) : ∃ r s q p : Node,
    (∀ A c W ok, Good W → t.In W ok A c → Calls Tryd.prog 16 #[.agg #[.int .u8 t.kind, .int .i64 t.num, .string t.name, .slice A t.kids.length c]] W (InvRet W r)) ∧
    (∀ A c W ok, Good W → t.In W ok A c → Calls Tryd.prog 17 #[.agg #[.int .u8 t.kind, .int .i64 t.num, .string t.name, .slice A t.kids.length c]] W (Fresh W s)) ∧
    (∀ A c W ok, Good W → s.In W ok A c → Calls Tryd.prog 16 #[.agg #[.int .u8 s.kind, .int .i64 s.num, .string s.name, .slice A s.kids.length c]] W (InvRet W q)) ∧
    (∀ A c W ok, Good W → r.In W ok A c → Calls Tryd.prog 17 #[.agg #[.int .u8 r.kind, .int .i64 r.num, .string r.name, .slice A r.kids.length c]] W (Fresh W p)) ∧
    (∀ A c B d W ok ok', p.In W ok A c → q.In W ok' B d → Calls Tryd.prog 18 #[.agg #[.int .u8 p.kind, .int .i64 p.num, .string p.name, .slice A p.kids.length c], .agg #[.int .u8 q.kind, .int .i64 q.num, .string q.name, .slice B q.kids.length d]] W fun e w' => e = .returned (.bool true) ∧ Below W.heap.size W w') := by
  have hi := inv_isBlock h
  refine ⟨t.inv, t.simp, t.simp.inv, t.inv.simp, ?_, ?_, ?_, ?_, ?_⟩
  · intro A c W ok hw ht; exact invStmt_any t (.inr h) A c W ok hw ht
  · intro A c W ok hw ht
    have := Block_any t A c W ok hw ht
    rw [blockB_eq, if_pos h] at this; exact this
  · intro A c W ok hw ht; exact invStmt_any t.simp (.inr (simp_isBlock h)) A c W ok hw ht
  · intro A c W ok hw ht
    have := Block_any t.inv A c W ok hw ht
    rw [blockB_eq, if_pos hi] at this; exact this
  · intro A c B d W ok ok' h1 h2
    have := refEqual_any t.inv.simp t.simp.inv A B c d W ok ok' h1 h2
    rw [inverts_plain h] at this; exact this

set_option maxHeartbeats 4000000 in
theorem invLaw_any (t : Node) (A : Option Addr) (c : Nat) (w : World) (ok : Nat → Prop) (hw : Good w) (ht : t.In w ok A c) :
    Calls Tryd.prog 4 #[.agg #[.int .u8 t.kind, .int .i64 t.num, .string t.name, .slice A t.kids.length c]] w fun e w' => e = .returned (.bool true) ∧ Below w.heap.size w w' := by
  have B0 := Hd.mk (Box1.start w t A c)
  have HT := Hd.mk ht
  have HW := Hd.mk hw
  clear ht hw
  go_enter Tryd.func4, Tryd.ntmps4
  go_wp2_with fail
  refine (awake_any _ (HW.out.below B0.out.below)).mono ?_
  rintro e w1 ⟨rfl, hb1⟩
  have B1 := Hd.mk (B0.out.next hb1)
  obtain ⟨⟨x0, x1, x2, x3⟩, hz⟩ := B1.out.facts
  clear hb1
  go_wp2_with fail
  refine (size_any t A c _ _ (HT.out.below B1.out.below)).mono ?_
  rintro e w2 ⟨rfl, hb2⟩
  have B2 := Hd.mk (B1.out.next hb2)
  obtain ⟨⟨x0, x1, x2, x3⟩, hz⟩ := B2.out.facts
  clear hb2
  go_wp2_with fail
  any_goals (go_ret; exact ⟨rfl, B2.out.below⟩)
  have HI := Hd.mk (fun W (h : Below w.heap.size w W) => isBlock_any t A c W ok (HW.out.below h) (HT.out.below h))
  cases hs : t.isBlock
  · rw [hs] at HI
    clear hs
    refine (HI.out _ B2.out.below).mono ?_
    rintro e w3 ⟨rfl, hb3⟩
    have B3 := Hd.mk (B2.out.next hb3)
    clear hb3
    go_wp2_with fail
    go_ret
    exact ⟨rfl, B3.out.below⟩
  · rw [hs] at HI
    have HBl := Hd.mk hs
    clear hs
    refine (HI.out _ B2.out.below).mono ?_
    rintro e w3 ⟨rfl, hb3⟩
    have B3 := Hd.mk (B2.out.next hb3)
    obtain ⟨⟨x0, x1, x2, x3⟩, hz⟩ := B3.out.facts
    clear hb3
    go_wp2_with fail
    obtain ⟨r, s, q, p, k1, k2, k3, k4, k5⟩ := inv_pack HBl.out
    have K1 := Hd.mk k1; have K2 := Hd.mk k2; have K3 := Hd.mk k3; have K4 := Hd.mk k4; have K5 := Hd.mk k5
    clear k1 k2 k3 k4 k5
    refine (K1.out A c _ ok (HW.out.below B3.out.below) (HT.out.below B3.out.below)).mono ?_
    rintro e w4 ⟨A1, c1, rfl, hb4, ho4⟩
    have B4 := Hd.mk (B3.out.next hb4)
    obtain ⟨⟨x0, x1, x2, x3⟩, hz⟩ := B4.out.facts
    have HO1 := Hd.mk (ho4.reads r)
    clear hb4 ho4
    go_wp2_with fail
    have hb5 := ext_alloc (Below.refl w4.heap.size w4) (.cells #[.int .u8 r.kind, .int .i64 r.num, .string r.name, .slice A1 r.kids.length c1] 24)
    have B5 := Hd.mk (B4.out.next hb5)
    have X5 := Hd.mk (new_block w4 (.cells #[.int .u8 r.kind, .int .i64 r.num, .string r.name, .slice A1 r.kids.length c1] 24))
    have HO5 := Hd.mk (HO1.out.below hb5)
    clear hb5
    refine (K2.out A c _ ok (HW.out.below B5.out.below) (HT.out.below B5.out.below)).mono ?_
    rintro e w6 ⟨A2, c2, rfl, hb6, ho6⟩
    have B6 := Hd.mk (B5.out.next hb6)
    have X6 := Hd.mk (stands X5.out hb6)
    have HO6 := Hd.mk (HO5.out.below hb6)
    have HS6 := Hd.mk (ho6.reads s)
    clear hb6 ho6
    go_wp2_with fail
    refine (K3.out A2 c2 _ _ (HW.out.below B6.out.below) HS6.out).mono ?_
    rintro e w7 ⟨A3, c3, rfl, hb7, ho7⟩
    have B7 := Hd.mk (B6.out.next hb7)
    have X7 := Hd.mk (stands X6.out hb7)
    have HO7 := Hd.mk (HO6.out.below hb7)
    have HQ7 := Hd.mk (ho7.reads q)
    clear hb7 ho7
    go_wp2_with fail
    have hb8 := ext_alloc (Below.refl w7.heap.size w7) (.cells #[.int .u8 q.kind, .int .i64 q.num, .string q.name, .slice A3 q.kids.length c3] 24)
    have B8 := Hd.mk (B7.out.next hb8)
    have X8 := Hd.mk (stands X7.out hb8)
    have Y8 := Hd.mk (new_block w7 (.cells #[.int .u8 q.kind, .int .i64 q.num, .string q.name, .slice A3 q.kids.length c3] 24))
    have HO8 := Hd.mk (HO7.out.below hb8)
    have HQ8 := Hd.mk (HQ7.out.below hb8)
    clear hb8
    generalize hgw : w7.alloc (.cells #[.int .u8 q.kind, .int .i64 q.num, .string q.name, .slice A3 q.kids.length c3] 24) = w8 at B8 X8 Y8 HO8 HQ8
    generalize w4.heap.size = n1 at X8
    generalize w7.heap.size = n2 at Y8
    clear hgw
    obtain ⟨x0, x1, x2, x3⟩ := four_cells X8.out
    obtain ⟨y0, y1, y2, y3⟩ := four_cells Y8.out
    go_region_held3 (fun W' => (W'.cell? ⟨n1, 0, none⟩ = some (.int .u8 r.kind) ∧ W'.cell? ⟨n1, 1, none⟩ = some (.int .i64 r.num) ∧ W'.cell? ⟨n1, 2, none⟩ = some (.string r.name) ∧ W'.cell? ⟨n1, 3, none⟩ = some (.slice A1 r.kids.length c1)) ∧
      (W'.cell? ⟨n2, 0, none⟩ = some (.int .u8 q.kind) ∧ W'.cell? ⟨n2, 1, none⟩ = some (.int .i64 q.num) ∧ W'.cell? ⟨n2, 2, none⟩ = some (.string q.name) ∧ W'.cell? ⟨n2, 3, none⟩ = some (.slice A3 q.kids.length c3)))
      (go_keep)
      (first
        | (have hbb := HB9.out; go_at_call 18; refine (K5.out _ _ A3 c3 _ _ _ HP9.out (HQ8.out.below HB9.out)).mono ?_; rintro e w2 ⟨rfl, hb2⟩; have HB2 := Hd.mk (ext_trans HB9.out hb2); obtain ⟨x0, x1, x2, x3⟩ := four_cells (stands X8.out HB2.out); obtain ⟨y0, y1, y2, y3⟩ := four_cells (stands Y8.out HB2.out))
        | (go_at_call 17; refine (K4.out A1 c1 _ _ (HW.out.below (B8.out.below.drew)) (HO8.out.below ((Below.refl _ _).drew))).mono ?_; rintro e w9 ⟨A9, c9, rfl, hb9, ho9⟩; have HB9 := Hd.mk (ext_trans ((Below.refl _ _).drew) hb9); obtain ⟨x0, x1, x2, x3⟩ := four_cells (stands X8.out HB9.out); obtain ⟨y0, y1, y2, y3⟩ := four_cells (stands Y8.out HB9.out); have HP9 := Hd.mk (ho9.reads p); clear ho9 hb9))
    go_wp2_with fail
    go_ret
    exact ⟨rfl, ext_trans B8.out.below HB2.out⟩
end Go.Proofs.YtgjanglonccclaaDoor
