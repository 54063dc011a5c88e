/- The law SimplifyBlocks: its walk. -/
import Derived.Test.YtgjanglonccclaaDoorPrgR
import Derived.Test.YtgjanglonccclaaDoorRefSame
import Derived.Test.YtgjanglonccclaaDoorSmall
namespace Go.Proofs.YtgjanglonccclaaDoor
open Go.RowKit
set_option linter.unusedVariables false
set_option linter.unusedSimpArgs false

/-- A boxed program and a boxed node. -/
structure BoxPN (w W : World) (p : Prg) (h : GH) (n : Node) (A : Option Addr) (c : Nat) : Prop where
  below : Below w.heap.size w W
  size : w.heap.size + 2 ≤ W.heap.size
  box : W.heap[w.heap.size]? = some (.cells #[.slice h.A p.vars.length h.c, .slice h.B p.procs.length h.d, .int .u8 p.main.kind, .int .i64 p.main.num, .string p.main.name, .slice h.C p.main.kids.length h.e] 38)
  box2 : W.heap[w.heap.size + 1]? = some (.cells #[.int .u8 n.kind, .int .i64 n.num, .string n.name, .slice A n.kids.length c] 24)
theorem BoxPN.start (w : World) (p : Prg) (h : GH) (n : Node) (A : Option Addr) (c : Nat) : BoxPN w ((w.alloc (.cells #[.slice h.A p.vars.length h.c, .slice h.B p.procs.length h.d, .int .u8 p.main.kind, .int .i64 p.main.num, .string p.main.name, .slice h.C p.main.kids.length h.e] 38)).alloc (.cells #[.int .u8 n.kind, .int .i64 n.num, .string n.name, .slice A n.kids.length c] 24)) p h n A c :=
  ⟨ext_alloc (ext_alloc (Below.refl _ _) _) _, by simp, blk_sub (new_block _ _), blk_top (by simp)⟩
theorem BoxPN.next {w W W2 : World} {p : Prg} {h : GH} {n : Node} {A : Option Addr} {c : Nat} (X : BoxPN w W p h n A c) (hb : Below W.heap.size W W2) : BoxPN w W2 p h n A c :=
  ⟨ext_trans X.below hb, Nat.le_trans X.size hb.size, stands X.box hb, stands X.box2 hb⟩
theorem BoxPN.facts {w W : World} {p : Prg} {h : GH} {n : Node} {A : Option Addr} {c : Nat} (X : BoxPN w W p h n A c) :
    (W.cell? ⟨w.heap.size, 0, none⟩ = some (.slice h.A p.vars.length h.c) ∧ W.cell? ⟨w.heap.size, 1, none⟩ = some (.slice h.B p.procs.length h.d) ∧ W.cell? ⟨w.heap.size, 2, none⟩ = some (.int .u8 p.main.kind) ∧ W.cell? ⟨w.heap.size, 3, none⟩ = some (.int .i64 p.main.num) ∧
      W.cell? ⟨w.heap.size, 4, none⟩ = some (.string p.main.name) ∧ W.cell? ⟨w.heap.size, 5, none⟩ = some (.slice h.C p.main.kids.length h.e)) ∧
    (W.cell? ⟨w.heap.size + 1, 0, none⟩ = some (.int .u8 n.kind) ∧ W.cell? ⟨w.heap.size + 1, 1, none⟩ = some (.int .i64 n.num) ∧ W.cell? ⟨w.heap.size + 1, 2, none⟩ = some (.string n.name) ∧ W.cell? ⟨w.heap.size + 1, 3, none⟩ = some (.slice A n.kids.length c)) ∧ w.heap.size + 1 < W.heap.size :=
  ⟨six_cells X.box, four_cells X.box2, X.size⟩

/-- What is called on the program: the walk from Clone on. -/
structure BlkPack (p : Prg) (h : GH) (w : World) (q : Prg) (b : Bool) (s : Int) : Prop where
  prog : ∀ W, Below w.heap.size w W → Calls Tryd.prog 22 #[(.agg #[.slice h.A p.vars.length h.c, .slice h.B p.procs.length h.d, .int .u8 p.main.kind, .int .i64 p.main.num, .string p.main.name, .slice h.C p.main.kids.length h.e])] W (PrgRet W q)
  valid : ∀ W, Below w.heap.size w W → Calls Tryd.prog 23 #[(.agg #[.slice h.A p.vars.length h.c, .slice h.B p.procs.length h.d, .int .u8 p.main.kind, .int .i64 p.main.num, .string p.main.name, .slice h.C p.main.kids.length h.e])] W fun e w' => e = .returned (.bool b) ∧ Below W.heap.size W w'
  small : ∀ W, Below w.heap.size w W → Calls Tryd.prog 25 #[(.agg #[.slice h.A p.vars.length h.c, .slice h.B p.procs.length h.d, .int .u8 p.main.kind, .int .i64 p.main.num, .string p.main.name, .slice h.C p.main.kids.length h.e])] W fun e w' => e = .returned (.int .i64 s) ∧ Below W.heap.size W w'
  no : b = false → q = p
  yes : b = true → ∀ W, Below w.heap.size w W → Calls Tryd.prog 26 #[(.agg #[.slice h.A p.vars.length h.c, .slice h.B p.procs.length h.d, .int .u8 p.main.kind, .int .i64 p.main.num, .string p.main.name, .slice h.C p.main.kids.length h.e])] W (PrgRet W q)
theorem blk_pack (p : Prg) (h : GH) (w : World) (ok : Nat → Prop) (hw : Good w) (hp : PrgIn w ok p h) : ∃ q b s, BlkPack p h w q b s := by
  refine ⟨p.mapB p.of, p.validB, p.smallN, ?_, ?_, ?_, ?_, ?_⟩
  · exact fun W hb => program_any p h W ok (hw.below hb) (hp.below hb)
  · exact fun W hb => valid_any p h W ok (hw.below hb) (hp.below hb)
  · exact fun W hb => small_any p h W ok (hw.below hb) (hp.below hb)
  · exact fun hv => mapB_invalid hv
  · intro hv W hb
    rw [mapB_valid hv]
    have := validB_blocks hv
    exact refProgram_any p h W ok (hp.below hb) this.1 this.2

set_option maxHeartbeats 4000000 in
set_option maxRecDepth 100000 in
theorem blkLaw_any (p : Prg) (h : GH) (n : Node) (A : Option Addr) (c : Nat) (w : World) (ok ok' : Nat → Prop) (hw : Good w) (hp : PrgIn w ok p h) (hn : n.In w ok' A c) :
    Calls Tryd.prog 7 #[(.agg #[.slice h.A p.vars.length h.c, .slice h.B p.procs.length h.d, .int .u8 p.main.kind, .int .i64 p.main.num, .string p.main.name, .slice h.C p.main.kids.length h.e]), .agg #[.int .u8 n.kind, .int .i64 n.num, .string n.name, .slice A n.kids.length c]] w fun e w' => e = .returned (.bool true) ∧ Below w.heap.size w w' := by
  have B0 := Hd.mk (BoxPN.start w p h n A c)
  have HW := Hd.mk hw
  have HP := Hd.mk hp
  have HN := Hd.mk hn
  obtain ⟨q, b, s, hpk⟩ := blk_pack p h w ok hw hp
  have HPK := Hd.mk hpk
  obtain ⟨hs, hq⟩ := hp.procs
  have hlp := hq.lenZ
  clear hw hp hn hq hpk
  go_enter Tryd.func7, Tryd.ntmps7
  go_wp2_with fail
  refine (awake_any _ (HW.out.below B0.out.below)).mono ?_
  rintro e w1 ⟨rfl, hb1⟩
  have B1 := Hd.mk (B0.out.next hb1)
  obtain ⟨⟨x0, x1, x2, x3, x4, x5⟩, ⟨y0, y1, y2, y3⟩, hz⟩ := B1.out.facts
  clear hb1
  go_wp2_with fail
  any_goals (go_ret; exact ⟨rfl, B1.out.below⟩)
  refine (size_any n A c _ _ (HN.out.below B1.out.below)).mono ?_
  rintro e w2 ⟨rfl, hb2⟩
  have B2 := Hd.mk (B1.out.next hb2)
  obtain ⟨⟨x0, x1, x2, x3, x4, x5⟩, ⟨y0, y1, y2, y3⟩, hz⟩ := B2.out.facts
  clear hb2
  go_wp2_with fail
  any_goals (go_ret; exact ⟨rfl, B2.out.below⟩)
  refine (Block_any n A c _ _ (HW.out.below B2.out.below) (HN.out.below B2.out.below)).mono ?_
  rintro e w3 ⟨A3, c3, rfl, hb3, ho3⟩
  obtain ⟨m, hm⟩ : ∃ m, blockB n = m := ⟨_, rfl⟩
  rw [hm] at ho3 ⊢
  have HMM := Hd.mk hm
  have B4 := Hd.mk (B2.out.next (ext_alloc hb3 (.cells #[.int .u8 m.kind, .int .i64 m.num, .string m.name, .slice A3 m.kids.length c3] 24)))
  have X4 := Hd.mk (new_block w3 (.cells #[.int .u8 m.kind, .int .i64 m.num, .string m.name, .slice A3 m.kids.length c3] 24))
  have HO4 := Hd.mk (In_any ((ho3.reads m).below (ext_alloc (Below.refl _ _) (.cells #[.int .u8 m.kind, .int .i64 m.num, .string m.name, .slice A3 m.kids.length c3] 24))))
  clear hb3 ho3 hm
  obtain ⟨⟨x0, x1, x2, x3, x4, x5⟩, ⟨y0, y1, y2, y3⟩, hz⟩ := B4.out.facts
  obtain ⟨z0, z1, z2, z3⟩ := four_cells X4.out
  go_wp2_with fail
  generalize w3.alloc (.cells #[.int .u8 m.kind, .int .i64 m.num, .string m.name, .slice A3 m.kids.length c3] 24) = w4 at B4 X4 HO4 x0 x1 x2 x3 x4 x5 y0 y1 y2 y3 z0 z1 z2 z3 hz ⊢
  generalize w3.heap.size = M at X4 z0 z1 z2 z3 ⊢
  have HI := Hd.mk (isBlock_any n A c w4 ok' (HW.out.below B4.out.below) (HN.out.below B4.out.below))
  cases hbk : n.isBlock
  · rw [hbk] at HI
    have HME := Hd.mk (show m = n by rw [← HMM.out, blockB_eq, hbk]; rfl)
    obtain rfl := HME.out
    clear hbk
    refine HI.out.mono ?_
    rintro e w5 ⟨rfl, hb5⟩
    have B5 := Hd.mk (B4.out.next hb5)
    have X5 := Hd.mk (stands X4.out hb5)
    have HO5 := Hd.mk (HO4.out.below hb5)
    clear hb5
    obtain ⟨⟨x0, x1, x2, x3, x4, x5⟩, ⟨y0, y1, y2, y3⟩, hz⟩ := B5.out.facts
    obtain ⟨z0, z1, z2, z3⟩ := four_cells X5.out
    go_wp2_with fail
    have HEM := Hd.mk ((eqB_refl m) ▸ refEqual_any m m A3 A c3 c _ _ _ HO5.out (HN.out.below B5.out.below))
    refine HEM.out.mono ?_
    rintro e w6 ⟨rfl, hb6⟩
    have B6 := Hd.mk (B5.out.next hb6)
    clear hb6 z0 z1 z2 z3 HEM
    obtain ⟨⟨x0, x1, x2, x3, x4, x5⟩, ⟨y0, y1, y2, y3⟩, hz⟩ := B6.out.facts

    go_wp2_with fail
    refine (clone_any p.main h.C h.e _ _ (HP.out.main.below B6.out.below)).mono ?_
    rintro e w7 ⟨A7, c7, rfl, hb7, ho7⟩
    have B8 := Hd.mk (B6.out.next (ext_alloc hb7 (.cells #[.int .u8 p.main.kind, .int .i64 p.main.num, .string p.main.name, .slice A7 p.main.kids.length c7] 24)))
    have X8 := Hd.mk (new_block w7 (.cells #[.int .u8 p.main.kind, .int .i64 p.main.num, .string p.main.name, .slice A7 p.main.kids.length c7] 24))
    have HO8 := Hd.mk (In_any ((ho7.reads _).below (ext_alloc (Below.refl _ _) (.cells #[.int .u8 p.main.kind, .int .i64 p.main.num, .string p.main.name, .slice A7 p.main.kids.length c7] 24))))
    have hb7s := ext_alloc (Below.refl w7.heap.size w7) (.cells #[.int .u8 p.main.kind, .int .i64 p.main.num, .string p.main.name, .slice A7 p.main.kids.length c7] 24)
    clear hb7 ho7
    obtain ⟨⟨x0, x1, x2, x3, x4, x5⟩, ⟨y0, y1, y2, y3⟩, hz⟩ := B8.out.facts
    go_wp2_with fail
    clear hb7s
    generalize w7.alloc (.cells #[.int .u8 p.main.kind, .int .i64 p.main.num, .string p.main.name, .slice A7 p.main.kids.length c7] 24) = w8 at B8 X8 HO8 x0 x1 x2 x3 x4 x5 y0 y1 y2 y3 hz ⊢
    generalize w7.heap.size = M8 at X8 ⊢
    refine (HPK.out.prog _ B8.out.below).mono ?_
    rintro e w9 ⟨g9, rfl, hb9, hi9⟩
    have B10 := Hd.mk (B8.out.next (ext_alloc hb9 (.cells #[.slice g9.A q.vars.length g9.c, .slice g9.B q.procs.length g9.d, .int .u8 q.main.kind, .int .i64 q.main.num, .string q.main.name, .slice g9.C q.main.kids.length g9.e] 38)))
    have X10 := Hd.mk (stands X8.out (ext_alloc hb9 (.cells #[.slice g9.A q.vars.length g9.c, .slice g9.B q.procs.length g9.d, .int .u8 q.main.kind, .int .i64 q.main.num, .string q.main.name, .slice g9.C q.main.kids.length g9.e] 38)))
    have HO10 := Hd.mk (HO8.out.below (ext_alloc hb9 (.cells #[.slice g9.A q.vars.length g9.c, .slice g9.B q.procs.length g9.d, .int .u8 q.main.kind, .int .i64 q.main.num, .string q.main.name, .slice g9.C q.main.kids.length g9.e] 38)))
    have Y10 := Hd.mk (new_block w9 (.cells #[.slice g9.A q.vars.length g9.c, .slice g9.B q.procs.length g9.d, .int .u8 q.main.kind, .int .i64 q.main.num, .string q.main.name, .slice g9.C q.main.kids.length g9.e] 38))
    have HI10 := Hd.mk (hi9.below (ext_alloc (Below.refl _ _) (.cells #[.slice g9.A q.vars.length g9.c, .slice g9.B q.procs.length g9.d, .int .u8 q.main.kind, .int .i64 q.main.num, .string q.main.name, .slice g9.C q.main.kids.length g9.e] 38)))
    clear hb9 hi9
    obtain ⟨⟨x0, x1, x2, x3, x4, x5⟩, ⟨y0, y1, y2, y3⟩, hz⟩ := B10.out.facts
    obtain ⟨z0, z1, z2, z3⟩ := four_cells X10.out
    obtain ⟨q0, q1, q2, q3, q4, q5⟩ := six_cells Y10.out
    go_wp2_with fail
    generalize w9.alloc (.cells #[.slice g9.A q.vars.length g9.c, .slice g9.B q.procs.length g9.d, .int .u8 q.main.kind, .int .i64 q.main.num, .string q.main.name, .slice g9.C q.main.kids.length g9.e] 38) = w10 at B10 X10 HO10 Y10 HI10 x0 x1 x2 x3 x4 x5 y0 y1 y2 y3 z0 z1 z2 z3 q0 q1 q2 q3 q4 q5 hz ⊢
    generalize w9.heap.size = M10 at Y10 q0 q1 q2 q3 q4 q5 ⊢
    have HEM := Hd.mk ((eqB_refl p.main) ▸ refEqual_any p.main p.main h.C A7 h.e c7 _ _ _ (HP.out.main.below B10.out.below) HO10.out)
    refine HEM.out.mono ?_
    rintro e w11 ⟨rfl, hb11⟩
    have B11 := Hd.mk (B10.out.next hb11)
    have Y11 := Hd.mk (stands Y10.out hb11)
    have HI11 := Hd.mk (HI10.out.below hb11)
    clear hb11 z0 z1 z2 z3 HEM
    obtain ⟨⟨x0, x1, x2, x3, x4, x5⟩, ⟨y0, y1, y2, y3⟩, hz⟩ := B11.out.facts
    obtain ⟨q0, q1, q2, q3, q4, q5⟩ := six_cells Y11.out
    go_wp2_with fail
    refine (HPK.out.valid _ B11.out.below).mono ?_
    rintro e w12 ⟨rfl, hb12⟩
    have B12 := Hd.mk (B11.out.next hb12)
    have Y12 := Hd.mk (stands Y11.out hb12)
    have HI12 := Hd.mk (HI11.out.below hb12)
    clear hb12
    obtain ⟨⟨x0, x1, x2, x3, x4, x5⟩, ⟨y0, y1, y2, y3⟩, hz⟩ := B12.out.facts
    obtain ⟨q0, q1, q2, q3, q4, q5⟩ := six_cells Y12.out
    have HYES := Hd.mk HPK.out.yes
    have HNO := Hd.mk HPK.out.no
    cases b
    · obtain rfl := HNO.out rfl
      go_wp2_with fail
      refine (refSame_any q g9 h _ _ _ HI12.out (HP.out.below B12.out.below)).mono ?_
      rintro e w13 ⟨rfl, hb13⟩
      go_wp2_with fail
      go_ret
      exact ⟨rfl, ext_trans B12.out.below hb13⟩
    · have HR := Hd.mk (HYES.out rfl)
      have KS2 : Hd (∀ W', Below w12.heap.size w12 W' → (fun W' => (W'.cell? ⟨w.heap.size, 0, none⟩ = some (.slice h.A p.vars.length h.c) ∧ W'.cell? ⟨w.heap.size, 1, none⟩ = some (.slice h.B p.procs.length h.d) ∧ W'.cell? ⟨w.heap.size, 2, none⟩ = some (.int .u8 p.main.kind) ∧ W'.cell? ⟨w.heap.size, 3, none⟩ = some (.int .i64 p.main.num) ∧ W'.cell? ⟨w.heap.size, 4, none⟩ = some (.string p.main.name) ∧ W'.cell? ⟨w.heap.size, 5, none⟩ = some (.slice h.C p.main.kids.length h.e)) ∧ (W'.cell? ⟨M10, 0, none⟩ = some (.slice g9.A q.vars.length g9.c) ∧ W'.cell? ⟨M10, 1, none⟩ = some (.slice g9.B q.procs.length g9.d) ∧ W'.cell? ⟨M10, 2, none⟩ = some (.int .u8 q.main.kind) ∧ W'.cell? ⟨M10, 3, none⟩ = some (.int .i64 q.main.num) ∧ W'.cell? ⟨M10, 4, none⟩ = some (.string q.main.name) ∧ W'.cell? ⟨M10, 5, none⟩ = some (.slice g9.C q.main.kids.length g9.e))) W') := ⟨fun W' h => ⟨(B12.out.next h).facts.1, six_cells (stands Y12.out h)⟩⟩
      by_cases hs0 : s = 0
      · subst hs0
        go_wp2_with fail
        go_region_with (first | (go_at_call 25; refine (HPK.out.small _ (ext_trans B12.out.below ?_)).mono ?_; (focus ((repeat first | (with_reducible apply Below.refl) | (with_reducible apply Below.drew) | (with_reducible apply ext_alloc) | (with_reducible apply HCC.out) | (with_reducible apply HCE.out) | (with_reducible apply HCF.out)); done)); rintro e w13 ⟨rfl, hb⟩; have HB13 := Hd.mk hb; clear hb))
        all_goals
          go_wp2_with fail
          go_ret
          exact ⟨rfl, ext_trans (ext_trans B12.out.below (Below.refl _ _).drew) HB13.out⟩
      · have hs1 : (s == 0) = false := by simpa using hs0
        go_wp2_with fail
        go_region_held3 (fun W' => (W'.cell? ⟨w.heap.size, 0, none⟩ = some (.slice h.A p.vars.length h.c) ∧ W'.cell? ⟨w.heap.size, 1, none⟩ = some (.slice h.B p.procs.length h.d) ∧ W'.cell? ⟨w.heap.size, 2, none⟩ = some (.int .u8 p.main.kind) ∧ W'.cell? ⟨w.heap.size, 3, none⟩ = some (.int .i64 p.main.num) ∧ W'.cell? ⟨w.heap.size, 4, none⟩ = some (.string p.main.name) ∧ W'.cell? ⟨w.heap.size, 5, none⟩ = some (.slice h.C p.main.kids.length h.e)) ∧ (W'.cell? ⟨M10, 0, none⟩ = some (.slice g9.A q.vars.length g9.c) ∧ W'.cell? ⟨M10, 1, none⟩ = some (.slice g9.B q.procs.length g9.d) ∧ W'.cell? ⟨M10, 2, none⟩ = some (.int .u8 q.main.kind) ∧ W'.cell? ⟨M10, 3, none⟩ = some (.int .i64 q.main.num) ∧ W'.cell? ⟨M10, 4, none⟩ = some (.string q.main.name) ∧ W'.cell? ⟨M10, 5, none⟩ = some (.slice g9.C q.main.kids.length g9.e))) (((with_reducible apply KS2.out); (repeat first | (with_reducible apply Below.refl) | (with_reducible apply Below.drew) | (with_reducible apply ext_alloc) | (with_reducible apply HCC.out) | (with_reducible apply HCE.out) | (with_reducible apply HCF.out)); done)) (first
          | ((have hxx := HCF.out); (fail_if_success have hyy := HCE.out); go_at_call 24; refine (refSame_any q g9 g13 _ _ _ (HI12.out.below ?_) HI13.out).mono ?_; (focus ((repeat first | (with_reducible apply Below.refl) | (with_reducible apply Below.drew) | (with_reducible apply ext_alloc) | (with_reducible apply HCC.out) | (with_reducible apply HCE.out) | (with_reducible apply HCF.out)); done)); rintro e w15 ⟨rfl, hb⟩; have HCE := Hd.mk (fun (v : World) (h : Below v.heap.size v _) => ext_trans h hb); refine have_then (p := Hd (Below w12.heap.size w12 w15)) ⟨?_⟩ (fun HB15 => ?_); (focus ((repeat first | (with_reducible apply Below.refl) | (with_reducible apply Below.drew) | (with_reducible apply ext_alloc) | (with_reducible apply HCC.out) | (with_reducible apply HCE.out) | (with_reducible apply HCF.out)); done)); obtain ⟨⟨x0, x1, x2, x3, x4, x5⟩, q0, q1, q2, q3, q4, q5⟩ := KS2.out _ HB15.out; clear hb hxx)
          | ((have hxx := HCC.out); (fail_if_success have hyy := HCF.out); go_at_call 26; refine (HR.out _ (ext_trans B12.out.below ?_)).mono ?_; (focus ((repeat first | (with_reducible apply Below.refl) | (with_reducible apply Below.drew) | (with_reducible apply ext_alloc) | (with_reducible apply HCC.out) | (with_reducible apply HCE.out) | (with_reducible apply HCF.out)); done)); rintro e w14 ⟨g13, rfl, hb, hi⟩; have HCF := Hd.mk (fun (v : World) (h : Below v.heap.size v _) => ext_trans h hb); have HI13 := Hd.mk hi; refine have_then (p := Hd (Below w12.heap.size w12 w14)) ⟨?_⟩ (fun HB14 => ?_); (focus ((repeat first | (with_reducible apply Below.refl) | (with_reducible apply Below.drew) | (with_reducible apply ext_alloc) | (with_reducible apply HCC.out) | (with_reducible apply HCE.out) | (with_reducible apply HCF.out)); done)); obtain ⟨⟨x0, x1, x2, x3, x4, x5⟩, q0, q1, q2, q3, q4, q5⟩ := KS2.out _ HB14.out; clear hb hi hxx)
          | ((fail_if_success have hxx := HCC.out); go_at_call 25; refine (HPK.out.small _ (ext_trans B12.out.below ?_)).mono ?_; (focus ((repeat first | (with_reducible apply Below.refl) | (with_reducible apply Below.drew) | (with_reducible apply ext_alloc) | (with_reducible apply HCC.out) | (with_reducible apply HCE.out) | (with_reducible apply HCF.out)); done)); rintro e w13 ⟨rfl, hb⟩; have HCC := Hd.mk (fun (v : World) (h : Below v.heap.size v _) => ext_trans h hb); refine have_then (p := Hd (Below w12.heap.size w12 w13)) ⟨?_⟩ (fun HB13 => ?_); (focus ((repeat first | (with_reducible apply Below.refl) | (with_reducible apply Below.drew) | (with_reducible apply ext_alloc) | (with_reducible apply HCC.out) | (with_reducible apply HCE.out) | (with_reducible apply HCF.out)); done)); obtain ⟨⟨x0, x1, x2, x3, x4, x5⟩, q0, q1, q2, q3, q4, q5⟩ := KS2.out _ HB13.out; clear hb))
        go_wp2_with fail
        go_ret
        exact ⟨rfl, ext_trans B12.out.below HB15.out⟩
  · rw [hbk] at HI
    have HME := Hd.mk (show n.simp = m by rw [← HMM.out, blockB_eq, hbk]; rfl)
    have HRB := Hd.mk (fun W (hb : Below w.heap.size w W) (N0 : Nat) (h0 : N0 ≤ W.heap.size) (hi : n.In W (fun b => b < N0) A c) => HME.out ▸ refBlk_any hbk A c W N0 h0 hi)
    clear hbk
    refine HI.out.mono ?_
    rintro e W5 ⟨rfl, hb5⟩
    have B5 := Hd.mk (B4.out.next hb5)
    have X5 := Hd.mk (stands X4.out hb5)
    have HO5 := Hd.mk (HO4.out.below hb5)
    clear hb5
    obtain ⟨⟨x0, x1, x2, x3, x4, x5⟩, ⟨y0, y1, y2, y3⟩, hz⟩ := B5.out.facts
    obtain ⟨z0, z1, z2, z3⟩ := four_cells X5.out
    have KS : Hd (∀ W', Below W5.heap.size W5 W' → (fun W' => (W'.cell? ⟨M, 0, none⟩ = some (.int .u8 m.kind) ∧ W'.cell? ⟨M, 1, none⟩ = some (.int .i64 m.num) ∧ W'.cell? ⟨M, 2, none⟩ = some (.string m.name) ∧ W'.cell? ⟨M, 3, none⟩ = some (.slice A3 m.kids.length c3)) ∧ W'.cell? ⟨w.heap.size + 1, 0, none⟩ = some (.int .u8 n.kind) ∧ W'.cell? ⟨w.heap.size + 1, 1, none⟩ = some (.int .i64 n.num) ∧ W'.cell? ⟨w.heap.size + 1, 2, none⟩ = some (.string n.name) ∧ W'.cell? ⟨w.heap.size + 1, 3, none⟩ = some (.slice A n.kids.length c)) W') := ⟨fun W' h => ⟨four_cells (stands X5.out h), (B5.out.next h).facts.2.1⟩⟩
    have HN5 := Hd.mk (show n.In W5 (fun b => b < W5.heap.size) A c from Node.In.move (fun _ _ _ => rfl) (fun _ _ h => h) _ (HN.out.below B5.out.below))
    go_wp2_with fail
    go_region_held3 (fun W' => (W'.cell? ⟨M, 0, none⟩ = some (.int .u8 m.kind) ∧ W'.cell? ⟨M, 1, none⟩ = some (.int .i64 m.num) ∧ W'.cell? ⟨M, 2, none⟩ = some (.string m.name) ∧ W'.cell? ⟨M, 3, none⟩ = some (.slice A3 m.kids.length c3)) ∧ W'.cell? ⟨w.heap.size + 1, 0, none⟩ = some (.int .u8 n.kind) ∧ W'.cell? ⟨w.heap.size + 1, 1, none⟩ = some (.int .i64 n.num) ∧ W'.cell? ⟨w.heap.size + 1, 2, none⟩ = some (.string n.name) ∧ W'.cell? ⟨w.heap.size + 1, 3, none⟩ = some (.slice A n.kids.length c)) (((with_reducible apply KS.out); (repeat first | (with_reducible apply Below.refl) | (with_reducible apply Below.drew) | (with_reducible apply ext_alloc) | (with_reducible apply HBC.out) | (with_reducible apply HBE.out)); done)) (first
      | ((have hxx := HBC.out); (fail_if_success have hyy := HBE.out); go_at_call 18; refine ((eqB_refl m) ▸ refEqual_any m m A3 A5 c3 c5 _ _ _ (HO5.out.below ?_) HR5.out).mono ?_; (focus ((repeat first | (with_reducible apply Below.refl) | (with_reducible apply Below.drew) | (with_reducible apply ext_alloc) | (with_reducible apply HBC.out) | (with_reducible apply HBE.out)); done)); rintro e w6 ⟨rfl, hb⟩; have HBE := Hd.mk (fun (v : World) (h : Below v.heap.size v _) => ext_trans h hb); refine have_then (p := Hd (Below W5.heap.size W5 w6)) ⟨?_⟩ (fun HB6 => ?_); (focus ((repeat first | (with_reducible apply Below.refl) | (with_reducible apply Below.drew) | (with_reducible apply ext_alloc) | (with_reducible apply HBC.out) | (with_reducible apply HBE.out)); done)); obtain ⟨⟨z0, z1, z2, z3⟩, y0, y1, y2, y3⟩ := KS.out _ HB6.out; clear hb hxx)
      | ((fail_if_success have hxx := HBC.out); go_at_call 20; refine (HRB.out _ (ext_trans B5.out.below ?_) W5.heap.size ?_ (HN5.out.below ?_)).mono ?_; (focus ((repeat first | (with_reducible apply Below.refl) | (with_reducible apply Below.drew) | (with_reducible apply ext_alloc) | (with_reducible apply HBC.out) | (with_reducible apply HBE.out)); done)); (focus (first | exact Nat.le_refl _ | (simp; done) | (simp; omega))); (focus ((repeat first | (with_reducible apply Below.refl) | (with_reducible apply Below.drew) | (with_reducible apply ext_alloc) | (with_reducible apply HBC.out) | (with_reducible apply HBE.out)); done)); rintro e w5 ⟨A5, c5, rfl, hb, hr⟩; have HBC := Hd.mk (fun (v : World) (h : Below v.heap.size v _) => ext_trans h hb); refine have_then (p := Hd (Below W5.heap.size W5 w5)) ⟨?_⟩ (fun HB5 => ?_); (focus ((repeat first | (with_reducible apply Below.refl) | (with_reducible apply Below.drew) | (with_reducible apply ext_alloc) | (with_reducible apply HBC.out) | (with_reducible apply HBE.out)); done)); have HR5 := Hd.mk (In_any hr); obtain ⟨⟨z0, z1, z2, z3⟩, y0, y1, y2, y3⟩ := KS.out _ HB5.out; clear hb hr))
    have B6 := Hd.mk (B5.out.next HB6.out)
    clear z0 z1 z2 z3 KS
    obtain ⟨⟨x0, x1, x2, x3, x4, x5⟩, ⟨y0, y1, y2, y3⟩, hz⟩ := B6.out.facts

    go_wp2_with fail
    refine (clone_any p.main h.C h.e _ _ (HP.out.main.below B6.out.below)).mono ?_
    rintro e w7 ⟨A7, c7, rfl, hb7, ho7⟩
    have B8 := Hd.mk (B6.out.next (ext_alloc hb7 (.cells #[.int .u8 p.main.kind, .int .i64 p.main.num, .string p.main.name, .slice A7 p.main.kids.length c7] 24)))
    have X8 := Hd.mk (new_block w7 (.cells #[.int .u8 p.main.kind, .int .i64 p.main.num, .string p.main.name, .slice A7 p.main.kids.length c7] 24))
    have HO8 := Hd.mk (In_any ((ho7.reads _).below (ext_alloc (Below.refl _ _) (.cells #[.int .u8 p.main.kind, .int .i64 p.main.num, .string p.main.name, .slice A7 p.main.kids.length c7] 24))))
    have hb7s := ext_alloc (Below.refl w7.heap.size w7) (.cells #[.int .u8 p.main.kind, .int .i64 p.main.num, .string p.main.name, .slice A7 p.main.kids.length c7] 24)
    clear hb7 ho7
    obtain ⟨⟨x0, x1, x2, x3, x4, x5⟩, ⟨y0, y1, y2, y3⟩, hz⟩ := B8.out.facts
    go_wp2_with fail
    clear hb7s
    generalize w7.alloc (.cells #[.int .u8 p.main.kind, .int .i64 p.main.num, .string p.main.name, .slice A7 p.main.kids.length c7] 24) = w8 at B8 X8 HO8 x0 x1 x2 x3 x4 x5 y0 y1 y2 y3 hz ⊢
    generalize w7.heap.size = M8 at X8 ⊢
    refine (HPK.out.prog _ B8.out.below).mono ?_
    rintro e w9 ⟨g9, rfl, hb9, hi9⟩
    have B10 := Hd.mk (B8.out.next (ext_alloc hb9 (.cells #[.slice g9.A q.vars.length g9.c, .slice g9.B q.procs.length g9.d, .int .u8 q.main.kind, .int .i64 q.main.num, .string q.main.name, .slice g9.C q.main.kids.length g9.e] 38)))
    have X10 := Hd.mk (stands X8.out (ext_alloc hb9 (.cells #[.slice g9.A q.vars.length g9.c, .slice g9.B q.procs.length g9.d, .int .u8 q.main.kind, .int .i64 q.main.num, .string q.main.name, .slice g9.C q.main.kids.length g9.e] 38)))
    have HO10 := Hd.mk (HO8.out.below (ext_alloc hb9 (.cells #[.slice g9.A q.vars.length g9.c, .slice g9.B q.procs.length g9.d, .int .u8 q.main.kind, .int .i64 q.main.num, .string q.main.name, .slice g9.C q.main.kids.length g9.e] 38)))
    have Y10 := Hd.mk (new_block w9 (.cells #[.slice g9.A q.vars.length g9.c, .slice g9.B q.procs.length g9.d, .int .u8 q.main.kind, .int .i64 q.main.num, .string q.main.name, .slice g9.C q.main.kids.length g9.e] 38))
    have HI10 := Hd.mk (hi9.below (ext_alloc (Below.refl _ _) (.cells #[.slice g9.A q.vars.length g9.c, .slice g9.B q.procs.length g9.d, .int .u8 q.main.kind, .int .i64 q.main.num, .string q.main.name, .slice g9.C q.main.kids.length g9.e] 38)))
    clear hb9 hi9
    obtain ⟨⟨x0, x1, x2, x3, x4, x5⟩, ⟨y0, y1, y2, y3⟩, hz⟩ := B10.out.facts
    obtain ⟨z0, z1, z2, z3⟩ := four_cells X10.out
    obtain ⟨q0, q1, q2, q3, q4, q5⟩ := six_cells Y10.out
    go_wp2_with fail
    generalize w9.alloc (.cells #[.slice g9.A q.vars.length g9.c, .slice g9.B q.procs.length g9.d, .int .u8 q.main.kind, .int .i64 q.main.num, .string q.main.name, .slice g9.C q.main.kids.length g9.e] 38) = w10 at B10 X10 HO10 Y10 HI10 x0 x1 x2 x3 x4 x5 y0 y1 y2 y3 z0 z1 z2 z3 q0 q1 q2 q3 q4 q5 hz ⊢
    generalize w9.heap.size = M10 at Y10 q0 q1 q2 q3 q4 q5 ⊢
    have HEM := Hd.mk ((eqB_refl p.main) ▸ refEqual_any p.main p.main h.C A7 h.e c7 _ _ _ (HP.out.main.below B10.out.below) HO10.out)
    refine HEM.out.mono ?_
    rintro e w11 ⟨rfl, hb11⟩
    have B11 := Hd.mk (B10.out.next hb11)
    have Y11 := Hd.mk (stands Y10.out hb11)
    have HI11 := Hd.mk (HI10.out.below hb11)
    clear hb11 z0 z1 z2 z3 HEM
    obtain ⟨⟨x0, x1, x2, x3, x4, x5⟩, ⟨y0, y1, y2, y3⟩, hz⟩ := B11.out.facts
    obtain ⟨q0, q1, q2, q3, q4, q5⟩ := six_cells Y11.out
    go_wp2_with fail
    refine (HPK.out.valid _ B11.out.below).mono ?_
    rintro e w12 ⟨rfl, hb12⟩
    have B12 := Hd.mk (B11.out.next hb12)
    have Y12 := Hd.mk (stands Y11.out hb12)
    have HI12 := Hd.mk (HI11.out.below hb12)
    clear hb12
    obtain ⟨⟨x0, x1, x2, x3, x4, x5⟩, ⟨y0, y1, y2, y3⟩, hz⟩ := B12.out.facts
    obtain ⟨q0, q1, q2, q3, q4, q5⟩ := six_cells Y12.out
    have HYES := Hd.mk HPK.out.yes
    have HNO := Hd.mk HPK.out.no
    cases b
    · obtain rfl := HNO.out rfl
      go_wp2_with fail
      refine (refSame_any q g9 h _ _ _ HI12.out (HP.out.below B12.out.below)).mono ?_
      rintro e w13 ⟨rfl, hb13⟩
      go_wp2_with fail
      go_ret
      exact ⟨rfl, ext_trans B12.out.below hb13⟩
    · have HR := Hd.mk (HYES.out rfl)
      have KS2 : Hd (∀ W', Below w12.heap.size w12 W' → (fun W' => (W'.cell? ⟨w.heap.size, 0, none⟩ = some (.slice h.A p.vars.length h.c) ∧ W'.cell? ⟨w.heap.size, 1, none⟩ = some (.slice h.B p.procs.length h.d) ∧ W'.cell? ⟨w.heap.size, 2, none⟩ = some (.int .u8 p.main.kind) ∧ W'.cell? ⟨w.heap.size, 3, none⟩ = some (.int .i64 p.main.num) ∧ W'.cell? ⟨w.heap.size, 4, none⟩ = some (.string p.main.name) ∧ W'.cell? ⟨w.heap.size, 5, none⟩ = some (.slice h.C p.main.kids.length h.e)) ∧ (W'.cell? ⟨M10, 0, none⟩ = some (.slice g9.A q.vars.length g9.c) ∧ W'.cell? ⟨M10, 1, none⟩ = some (.slice g9.B q.procs.length g9.d) ∧ W'.cell? ⟨M10, 2, none⟩ = some (.int .u8 q.main.kind) ∧ W'.cell? ⟨M10, 3, none⟩ = some (.int .i64 q.main.num) ∧ W'.cell? ⟨M10, 4, none⟩ = some (.string q.main.name) ∧ W'.cell? ⟨M10, 5, none⟩ = some (.slice g9.C q.main.kids.length g9.e))) W') := ⟨fun W' h => ⟨(B12.out.next h).facts.1, six_cells (stands Y12.out h)⟩⟩
      by_cases hs0 : s = 0
      · subst hs0
        go_wp2_with fail
        go_region_with (first | (go_at_call 25; refine (HPK.out.small _ (ext_trans B12.out.below ?_)).mono ?_; (focus ((repeat first | (with_reducible apply Below.refl) | (with_reducible apply Below.drew) | (with_reducible apply ext_alloc) | (with_reducible apply HCC.out) | (with_reducible apply HCE.out) | (with_reducible apply HCF.out)); done)); rintro e w13 ⟨rfl, hb⟩; have HB13 := Hd.mk hb; clear hb))
        all_goals
          go_wp2_with fail
          go_ret
          exact ⟨rfl, ext_trans (ext_trans B12.out.below (Below.refl _ _).drew) HB13.out⟩
      · have hs1 : (s == 0) = false := by simpa using hs0
        go_wp2_with fail
        go_region_held3 (fun W' => (W'.cell? ⟨w.heap.size, 0, none⟩ = some (.slice h.A p.vars.length h.c) ∧ W'.cell? ⟨w.heap.size, 1, none⟩ = some (.slice h.B p.procs.length h.d) ∧ W'.cell? ⟨w.heap.size, 2, none⟩ = some (.int .u8 p.main.kind) ∧ W'.cell? ⟨w.heap.size, 3, none⟩ = some (.int .i64 p.main.num) ∧ W'.cell? ⟨w.heap.size, 4, none⟩ = some (.string p.main.name) ∧ W'.cell? ⟨w.heap.size, 5, none⟩ = some (.slice h.C p.main.kids.length h.e)) ∧ (W'.cell? ⟨M10, 0, none⟩ = some (.slice g9.A q.vars.length g9.c) ∧ W'.cell? ⟨M10, 1, none⟩ = some (.slice g9.B q.procs.length g9.d) ∧ W'.cell? ⟨M10, 2, none⟩ = some (.int .u8 q.main.kind) ∧ W'.cell? ⟨M10, 3, none⟩ = some (.int .i64 q.main.num) ∧ W'.cell? ⟨M10, 4, none⟩ = some (.string q.main.name) ∧ W'.cell? ⟨M10, 5, none⟩ = some (.slice g9.C q.main.kids.length g9.e))) (((with_reducible apply KS2.out); (repeat first | (with_reducible apply Below.refl) | (with_reducible apply Below.drew) | (with_reducible apply ext_alloc) | (with_reducible apply HCC.out) | (with_reducible apply HCE.out) | (with_reducible apply HCF.out)); done)) (first
          | ((have hxx := HCF.out); (fail_if_success have hyy := HCE.out); go_at_call 24; refine (refSame_any q g9 g13 _ _ _ (HI12.out.below ?_) HI13.out).mono ?_; (focus ((repeat first | (with_reducible apply Below.refl) | (with_reducible apply Below.drew) | (with_reducible apply ext_alloc) | (with_reducible apply HCC.out) | (with_reducible apply HCE.out) | (with_reducible apply HCF.out)); done)); rintro e w15 ⟨rfl, hb⟩; have HCE := Hd.mk (fun (v : World) (h : Below v.heap.size v _) => ext_trans h hb); refine have_then (p := Hd (Below w12.heap.size w12 w15)) ⟨?_⟩ (fun HB15 => ?_); (focus ((repeat first | (with_reducible apply Below.refl) | (with_reducible apply Below.drew) | (with_reducible apply ext_alloc) | (with_reducible apply HCC.out) | (with_reducible apply HCE.out) | (with_reducible apply HCF.out)); done)); obtain ⟨⟨x0, x1, x2, x3, x4, x5⟩, q0, q1, q2, q3, q4, q5⟩ := KS2.out _ HB15.out; clear hb hxx)
          | ((have hxx := HCC.out); (fail_if_success have hyy := HCF.out); go_at_call 26; refine (HR.out _ (ext_trans B12.out.below ?_)).mono ?_; (focus ((repeat first | (with_reducible apply Below.refl) | (with_reducible apply Below.drew) | (with_reducible apply ext_alloc) | (with_reducible apply HCC.out) | (with_reducible apply HCE.out) | (with_reducible apply HCF.out)); done)); rintro e w14 ⟨g13, rfl, hb, hi⟩; have HCF := Hd.mk (fun (v : World) (h : Below v.heap.size v _) => ext_trans h hb); have HI13 := Hd.mk hi; refine have_then (p := Hd (Below w12.heap.size w12 w14)) ⟨?_⟩ (fun HB14 => ?_); (focus ((repeat first | (with_reducible apply Below.refl) | (with_reducible apply Below.drew) | (with_reducible apply ext_alloc) | (with_reducible apply HCC.out) | (with_reducible apply HCE.out) | (with_reducible apply HCF.out)); done)); obtain ⟨⟨x0, x1, x2, x3, x4, x5⟩, q0, q1, q2, q3, q4, q5⟩ := KS2.out _ HB14.out; clear hb hi hxx)
          | ((fail_if_success have hxx := HCC.out); go_at_call 25; refine (HPK.out.small _ (ext_trans B12.out.below ?_)).mono ?_; (focus ((repeat first | (with_reducible apply Below.refl) | (with_reducible apply Below.drew) | (with_reducible apply ext_alloc) | (with_reducible apply HCC.out) | (with_reducible apply HCE.out) | (with_reducible apply HCF.out)); done)); rintro e w13 ⟨rfl, hb⟩; have HCC := Hd.mk (fun (v : World) (h : Below v.heap.size v _) => ext_trans h hb); refine have_then (p := Hd (Below w12.heap.size w12 w13)) ⟨?_⟩ (fun HB13 => ?_); (focus ((repeat first | (with_reducible apply Below.refl) | (with_reducible apply Below.drew) | (with_reducible apply ext_alloc) | (with_reducible apply HCC.out) | (with_reducible apply HCE.out) | (with_reducible apply HCF.out)); done)); obtain ⟨⟨x0, x1, x2, x3, x4, x5⟩, q0, q1, q2, q3, q4, q5⟩ := KS2.out _ HB13.out; clear hb))
        go_wp2_with fail
        go_ret
        exact ⟨rfl, ext_trans B12.out.below HB15.out⟩
end Go.Proofs.YtgjanglonccclaaDoor
