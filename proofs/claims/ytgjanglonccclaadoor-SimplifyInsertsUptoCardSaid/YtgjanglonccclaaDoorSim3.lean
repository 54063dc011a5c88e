/- Contract of simplify.block. -/
import Derived.Test.YtgjanglonccclaaDoorSim2
import Derived.Maps.AppendAt
import Derived.OwnWalk
namespace Go.Proofs.YtgjanglonccclaaDoor
open Go.RowKit
set_option linter.unusedVariables false
set_option linter.unusedSimpArgs false

def EachRuns (t : Node) : Prop := ∀ (A : Option Addr) (c : Nat) (w : World) (ok : Nat → Prop), Good w → t.In w ok A c →
  Calls Tryd.prog 61 #[.agg #[.int .u8 t.kind, .int .i64 t.num, .string t.name, .slice A t.kids.length c], .func (.func 42) #[] #[]] w (Fresh w t.eachS)

structure BlockInv (w W : World) (t : Node) (A : Option Addr) (c : Nat) (A2 : Option Addr) (c2 : Nat) (acc : List Node) : Prop where
  boxes : Boxes w W t A c
  hi : w.heap.size + 2 < W.heap.size
  out : W.heap[w.heap.size + 2]? = some (.cells #[.int .u8 57, .int .i64 0, .string ⟨#[]⟩, .slice A2 acc.length c2] 24)
  own : (⟨57, 0, ⟨#[]⟩, acc⟩ : Node).Own W ⟨A2, c2, fun x => w.heap.size + 3 ≤ x⟩
theorem BlockInv.next {w W W2 : World} {t : Node} {A : Option Addr} {c : Nat} {A2 : Option Addr} {c2 : Nat} {acc : List Node} (E : BlockInv w W t A c A2 c2 acc) (h : Below W.heap.size W W2) : BlockInv w W2 t A c A2 c2 acc :=
  ⟨E.boxes.next h, Nat.lt_of_lt_of_le E.hi h.size, by rw [h.block _ E.hi]; exact E.out, E.own.below h⟩

theorem ext_drewN {B : Nat} {w W : World} (h : Below B w W) (n : Nat) : Below B w (W.drewN n) := ⟨h.os, h.tape, h.output, h.size, h.block⟩
theorem BlockInv.push {w wr W w2 : World} {t : Node} {A : Option Addr} {c : Nat} {A2 : Option Addr} {c2 : Nat} {acc : List Node} (E : BlockInv w wr t A c A2 c2 acc) {hs : List Hdr} (P : OwnParts wr acc (Hdr.tight wr ⟨A2, c2, fun x => w.heap.size + 3 ≤ x⟩) hs)
    (hW : Below wr.heap.size wr W) {s : Node} {A3 : Option Addr} {c3 N : Nat} (hN : wr.heap.size ≤ N) (ho : s.Own W ⟨A3, c3, fun x => N ≤ x⟩) {g cap : Nat}
    (hrow : w2.ownsRow 0 24 4 (.slice (some ⟨g, 0, none⟩) (acc.length + 1) cap) (acc.length + 1) (valsAll acc hs ++ [.int .u8 s.kind, .int .i64 s.num, .string s.name, .slice A3 s.kids.length c3]))
    (hgr : W.grownBy w2 (Value.slice A2 acc.length c2).ownBlock) (hat : (Value.slice A2 acc.length c2).ownBlock = some g ∨ g = W.heap.size) (hlen : (acc.length + 1) * 56 ≤ 140737488355328) :
    BlockInv w (w2.setCell ⟨w.heap.size + 2, 3, none⟩ (.slice (some ⟨g, 0, none⟩) (acc.length + 1) cap)) t A c (some ⟨g, 0, none⟩) cap (acc ++ [s]) := by
  have hi := E.hi
  have hsz := hW.size
  have hgs := hgr.size
  have NE : ∀ x, x < w.heap.size + 3 → some x ≠ (Value.slice A2 acc.length c2).ownBlock := fun x hx h => by
    have := (P.mine x h.symm).1.1
    simp at this; omega
  have hown2 := Node.Own.snoc (w := W) (w1 := w2) (k := 57) (n := 0) (s := ⟨#[]⟩) (g := g) (cap := cap) (u := s) (hu := Hdr.tight W ⟨A3, c3, fun x => N ≤ x⟩)
    ⟨by simp, by simp, by simp, by simp, by simp [ByteArray.size]⟩ (P.below hW) (fun x hx => by have := hx.2; omega) (Node.Own.tight _ ho) (fun x hx hy => by have h1 : N ≤ x := hx.1; have h2 : x < wr.heap.size := hy.2; omega) (fun x hx => hx.2)
    hrow hgr hat hlen
  have keep : ∀ x, x < w.heap.size + 3 → w2.heap[x]? = wr.heap[x]? := fun x hx => by
    rw [hgr.block _ (by omega) (NE x hx), hW.block _ (by omega)]
  have hbox : ∀ x, x < w.heap.size + 2 → (w2.setCell ⟨w.heap.size + 2, 3, none⟩ (.slice (some ⟨g, 0, none⟩) (acc.length + 1) cap)).heap[x]? = wr.heap[x]? := fun x hx => by
    rw [set_other (by omega), keep x (by omega)]
  have hos : Below w.heap.size w (w2.setCell ⟨w.heap.size + 2, 3, none⟩ (.slice (some ⟨g, 0, none⟩) (acc.length + 1) cap)) := by
    refine Below.setCell (p := ⟨w.heap.size + 2, 3, none⟩) ?_ (by simp) _
    refine ((E.boxes.below.trans (hW.mono (by omega))).grown hgr (by omega) (fun k hk => ?_))
    rcases Nat.lt_or_ge k (w.heap.size + 3) with h | h
    · exact absurd hk.symm (NE k h)
    · omega
  refine ⟨⟨hos, ?_, ?_, ?_⟩, ?_, ?_, ?_⟩
  · simp only [World.setCell, Array.size_modify]; omega
  · rw [hbox _ (by omega)]; exact E.boxes.box
  · rw [hbox _ (by omega)]; exact E.boxes.res
  · simp only [World.setCell, Array.size_modify]; omega
  · have := E.out
    rw [← keep _ (by omega)] at this
    rw [set_blk this]; simp
  · refine Node.Own.move (w := w2) _ (fun x hx _ => set_other (by have : w.heap.size + 3 ≤ x := hx; omega)) (Node.Own.mono hown2 (fun x hx => ?_))
    rcases hx with hx | hx | hx
    · exact hx.1
    · have : N ≤ x := hx.1; omega
    · omega
theorem BlockInv.pop {w W : World} {t : Node} {A : Option Addr} {c : Nat} {A2 : Option Addr} {c2 : Nat} {acc init : List Node} {l : Node} (hacc : acc = init ++ [l]) (E : BlockInv w W t A c A2 c2 acc) :
    BlockInv w (W.setCell ⟨w.heap.size + 2, 3, none⟩ (.slice A2 init.length c2)) t A c A2 c2 init := by
  subst hacc
  have hi := E.hi
  obtain ⟨hf, hlen, hs, p⟩ := Node.Own_eq.1 E.own
  refine ⟨⟨Below.setCell (p := ⟨w.heap.size + 2, 3, none⟩) E.boxes.below (by simp) _, by simp only [World.setCell, Array.size_modify]; omega, by rw [set_other (by omega)]; exact E.boxes.box, by rw [set_other (by omega)]; exact E.boxes.res⟩,
    by simp only [World.setCell, Array.size_modify]; omega, by rw [set_blk E.out]; simp, ?_⟩
  refine Node.Own.move (w := W) _ (fun x hx _ => set_other (by have : w.heap.size + 3 ≤ x := hx; omega)) ?_
  rw [Node.Own_eq]
  have q := p.take init.length (by simp)
  simp only [List.take_left'] at q
  refine ⟨⟨by simp, by simp, by simp, by simp, by simp [ByteArray.size]⟩, by simp at hlen ⊢; omega, _, q⟩

theorem row_cap {W : World} {base : Nat} {e : TypeId} {size : Nat} {A : Option Addr} {n c m : Nat} {xs : List Value} (h : W.ownsRow base e size (.slice A n c) m xs) : n ≤ c := by
  rcases h.2 with ⟨h, _⟩ | ⟨g, cap, cur, h, _, _, h2, _⟩
  · injection h; omega
  · injection h; omega
theorem new_after (w : World) (X Y : Obj) (n : Nat) : (((w.alloc X).drewN n).alloc Y).heap[w.heap.size + 1]? = some Y := by
  have h := heap_alloc_new ((w.alloc X).drewN n) Y
  have e : ((w.alloc X).drewN n).heap.size = w.heap.size + 1 := by simp [World.drewN]
  rw [e] at h
  exact h
theorem BlockInv.after {w wr W w2 : World} {t : Node} {A : Option Addr} {c : Nat} {A2 : Option Addr} {c2 : Nat} {acc : List Node} (E : BlockInv w wr t A c A2 c2 acc) {hs : List Hdr} (P : OwnParts wr acc (Hdr.tight wr ⟨A2, c2, fun x => w.heap.size + 3 ≤ x⟩) hs)
    (hW : Below wr.heap.size wr W) (hgr : W.grownBy w2 (Value.slice A2 acc.length c2).ownBlock) :
    w2.heap[w.heap.size + 1 + 1]? = some (.cells #[.int .u8 57, .int .i64 0, .string ⟨#[]⟩, .slice A2 acc.length c2] 24) := by
  have hi := E.hi
  have hsz := hW.size
  have NE : ∀ x, x < w.heap.size + 3 → some x ≠ (Value.slice A2 acc.length c2).ownBlock := fun x hx h => by
    have := (P.mine x h.symm).1.1
    simp at this; omega
  rw [hgr.block _ (by omega) (NE _ (by omega)), hW.block _ (by omega)]
  exact E.out
set_option maxHeartbeats 4000000 in
set_option maxRecDepth 100000 in
theorem block_step (t : Node) (ih : ∀ k ∈ t.kids, EachRuns k) : SimRuns t := by
  intro A c w ok hw h
  have B0 := Hd.mk (Boxes.start w t A c)
  have H := Hd.mk h
  have HW := Hd.mk hw
  have IH := Hd.mk ih
  have hl := h.lenZ
  clear h hw ih
  obtain ⟨i0, hi, hz0, hz1, hz2⟩ := info_parts infoNode
  go_enter Tryd.func42, Tryd.ntmps42
  go_wp2_with fail
  go_loopw [5, 6, 7, 12] (fun v5 v6 v7 v12 W => ∃ (j : Nat) (A2 : Option Addr) (c2 : Nat) (acc : List Node), j ≤ t.kids.length ∧ v12 = .int .i64 j ∧ Hd (acc.length ≤ j ∧ simpAll acc (t.kids.drop j) = simpAll [] t.kids) ∧ BlockInv w W t A c A2 c2 acc) (fun _ _ _ v12 _ => t.kids.length - (intOf v12).toNat)
  case atStart =>
    refine ⟨0, none, 0, [], Nat.zero_le _, rfl, ⟨by simp, rfl⟩, ?_⟩
    have B1 := B0.out.next (ext_alloc (Below.refl _ _) (.cells #[.int .u8 57, .int .i64 0, .string ⟨#[]⟩, .slice none 0 0] 24))
    refine ⟨B1, by simp, ?_, Node.Own.leaf (t := ⟨57, 0, ⟨#[]⟩, []⟩) ⟨by simp, by simp, by simp, by simp, by simp [ByteArray.size]⟩ _ rfl⟩
    have := (Go.MapKept.heap_alloc ((w.alloc (.cells #[.int .u8 t.kind, .int .i64 t.num, .string t.name, .slice A t.kids.length c] 24)).alloc (.cells #[.int .u8 0, .int .i64 0, .string ⟨#[]⟩, .slice none 0 0] 24)) (.cells #[.int .u8 57, .int .i64 0, .string ⟨#[]⟩, .slice none 0 0] 24)).1
    simpa using this
  case round =>
    obtain ⟨j, A2, c2, acc, hj, rfl, HS, E⟩ := hrel
    by_cases hlt : j < t.kids.length
    · obtain ⟨b, o, A1, c1, rfl, e0, e1, e2, e3, h4⟩ := (H.out.below E.boxes.below).at_ j hlt
      have HI := Hd.mk (IH.out t.kids[j] (List.getElem_mem _))
      have HE := Hd.mk E
      have H4 := Hd.mk h4
      have hi0 := E.hi
      clear E h4
      go_wp2_with fail
      refine (HI.out A1 c1 _ ok (HW.out.below (ext_trans HE.out.boxes.below (ext_alloc (Below.refl _ _) _))) (H4.out.below (ext_alloc (Below.refl _ _) _))).mono ?_
      rintro e w1 ⟨A3, c3, rfl, hb1, ho1⟩
      have hbw : Below wr.heap.size wr w1 := ext_trans (ext_alloc (Below.refl _ _) _) hb1
      have HE1 := Hd.mk (HE.out.next hbw)
      obtain ⟨o0, o1, o2, o3⟩ := four_cells HE1.out.out
      have hi1 := HE1.out.hi
      have hacc : acc.length ≤ j := HS.out.1
      obtain ⟨hfit, hlen, hd, P⟩ := Node.Own_eq.1 (Node.Own.tight _ HE.out.own)
      have PR := Hd.mk (fun W (hb : Below w1.heap.size w1 W) => ((P.below hbw).below hb).row)
      have HP := Hd.mk P
      have NX := Hd.mk (simpAll_drop hlt acc)
      clear P hfit hlen
      obtain ⟨s, hs⟩ : ∃ s, t.kids[j].eachS = s := ⟨_, rfl⟩
      rw [hs] at ho1 NX
      rw [hs]
      have HO1 := Hd.mk (show Node.Own w1 s ⟨A3, c3, fun x => wr.heap.size ≤ x⟩ from Node.Own.mono ho1 (fun x hx => by simp at hx; omega))
      have HB1 := Hd.mk hbw
      clear ho1 hb1 hbw hs
      obtain rfl | ⟨init, l, rfl⟩ : acc = [] ∨ ∃ init l, acc = init ++ [l] := by
        rcases List.eq_nil_or_concat acc with h | ⟨i, l, h⟩
        · exact .inl h
        · exact .inr ⟨i, l, by rw [h, List.concat_eq_append]⟩
      · simp only [List.length_nil] at o3 hacc
        go_wp2_with fail
        go_quiet (fail)
        go_wp2_with (at_builtin; refine wpList_append_own_at _ rfl _ _ 22 rfl 0 24 i0 _ 4 56 Tryd.underlying22 hi hz0 hz1 hz2 rfl (by omega) (.slice A2 0 c2) 0 (valsAll [] hd) rfl (PR.out _ (ext_alloc (ext_drewN (ext_alloc (Below.refl _ _) _) _) _)) ⟨w1.heap.size + 1, 0, none⟩ 1 1 [.int .u8 s.kind, .int .i64 s.num, .string s.name, .slice A3 s.kids.length c3] rfl rfl (World.news_of_block (new_after w1 _ _ _)) (by simp [Value.oneCell']) (by simp [maxLen]) (by omega) (by omega) ?_; intro v' w2 hrow hgr _ hat; obtain ⟨g, cap, rfl, _, _⟩ := hrow.form (by omega); have hu := HE.out.after HP.out (ext_trans HB1.out (ext_alloc (ext_drewN (ext_alloc (Below.refl _ _) _) _) _)) hgr; obtain ⟨p0, p1, p2, p3⟩ := four_cells hu; have pf := blk_free hu 3; have HU := Hd.mk hu; clear hu)
        go_roundw
        case rel =>
          refine ⟨j + 1, _, _, [s], hlt, by go_num, ⟨by simp, ?_⟩, HE.out.push HP.out (ext_trans HB1.out (ext_alloc (ext_drewN (ext_alloc (Below.refl _ _) _) _) _)) (Nat.le_refl _) (HO1.out.below (ext_alloc (ext_drewN (ext_alloc (Below.refl _ _) _) _) _)) hrow hgr ?_ (by simp)⟩
          · rw [← HS.out.2, NX.out]; rfl
          · rcases hat with h | h
            · exact .inl h.symm
            · exact .inr (Option.some.inj h)
        case measure => simp [intOf]; omega
      · simp only [List.length_append, List.length_singleton] at o3 hacc
        have hil : (init.length : Int) ≤ 2513169434916 := by omega
        have hdec : decide ((0 : Int) ≤ (init.length : Int)) = true := by simp
        have hd0 : (0 : Int) ≤ (init.length : Int) := by omega
        have hd1 : (init.length : Int) < (init.length : Int) + 1 := by omega
        obtain ⟨hs2, p⟩ := (Node.Own_eq.1 HE1.out.own).2.2
        obtain ⟨g, k0, hA, hF, hg, hfr, q0, q1, q2, q3, q4⟩ := p.at_ init.length (by simp)
        simp only [List.getElem_append_right (Nat.le_refl _), Nat.sub_self, List.getElem_cons_zero] at q0 q1 q2 q3 q4
        obtain rfl : A2 = some ⟨g, 0, none⟩ := hA
        generalize hs2[init.length] = hl at q3 q4
        have HL := Hd.mk q4
        have HP2 := Hd.mk p
        have HFR := Hd.mk hfr
        have HC := Hd.mk (fun (W : World) (hb : Below w1.heap.size w1 W) => cancels_any l s hl.A A3 hl.c c3 W _ _ (HW.out.below (ext_trans HE1.out.boxes.below hb)) (Node.Own.reads l (HL.out.below hb)) (Node.Own.reads s (HO1.out.below hb)))
        have hgF : w.heap.size + 3 ≤ g := hF
        obtain ⟨cb, hcb⟩ : ∃ x, cancelsB l s = x := ⟨_, rfl⟩
        rw [hcb] at HC
        have HCB := Hd.mk hcb
        clear p q4 hfr hcb hF
        go_wp2_with fail
        go_region_held3 (fun W' => W'.cell? ⟨w.heap.size + 1 + 1, 3, none⟩ = some (.slice (some ⟨g, 0, none⟩) (init.length + 1) c2) ∧ (W'.cell? ⟨g, init.length * 4, none⟩ = some (.int .u8 l.kind) ∧ W'.cell? ⟨g, init.length * 4 + 1, none⟩ = some (.int .i64 l.num) ∧
          W'.cell? ⟨g, init.length * 4 + 2, none⟩ = some (.string l.name) ∧ W'.cell? ⟨g, init.length * 4 + 3, none⟩ = some (.slice hl.A l.kids.length hl.c)) ∧ W'.cell? ⟨w1.heap.size, 0, none⟩ = some (.int .u8 s.kind) ∧ W'.cell? ⟨w1.heap.size, 1, none⟩ = some (.int .i64 s.num) ∧
          W'.cell? ⟨w1.heap.size, 2, none⟩ = some (.string s.name) ∧ W'.cell? ⟨w1.heap.size, 3, none⟩ = some (.slice A3 s.kids.length c3))
          (go_keep)
          (first
            | (go_at_call 14; refine (HC.out _ ((ext_alloc (Below.refl _ _) _).drew)).mono ?_; rintro e w2 ⟨rfl, hb2⟩; have hbw : Below w1.heap.size w1 w2 := ext_trans ((ext_alloc (Below.refl _ _) _).drew) hb2; have y0 := (hbw.cell (p := ⟨w.heap.size + 1 + 1, 3, none⟩) hi1).trans o3; obtain ⟨z0, z1, z2, z3⟩ := box_cells (ext_trans ((Below.refl _ _).drew) hb2); have s0 := (hbw.cell (p := ⟨g, init.length * 4, none⟩) hg).trans q0; have s1 := (hbw.cell (p := ⟨g, init.length * 4 + 1, none⟩) hg).trans q1; have s2 := (hbw.cell (p := ⟨g, init.length * 4 + 2, none⟩) hg).trans q2; have s3 := (hbw.cell (p := ⟨g, init.length * 4 + 3, none⟩) hg).trans q3))
        have HE2 := Hd.mk (HE1.out.next hbw)
        obtain ⟨p0, p1, p2, p3⟩ := four_cells HE2.out.out
        have pf := blk_free HE2.out.out 3
        rw [show w.heap.size + 2 = w.heap.size + 1 + 1 from rfl] at p0 p1 p2 p3 pf
        have el : (init ++ [l]).length = init.length + 1 := by simp
        rw [el] at p3
        have hcap : init.length + 1 ≤ c2 := by have := row_cap (PR.out w1 (Below.refl _ _)); simpa [Hdr.tight] using this
        have hci : (init.length : Int) ≤ (c2 : Int) := by omega
        have PR2 := Hd.mk (fun (W : World) (hb : Below w1.heap.size w1 W) => show W.ownsRow 0 24 4 (.slice (some ⟨g, 0, none⟩) (init.length + 1) c2) (init.length + 1) (valsAll (init ++ [l]) hd) by have := PR.out W hb; rw [el] at this; exact this)
        have EL := Hd.mk el
        have HBW := Hd.mk hbw
        clear el hbw
        cases cb
        · go_wp2_with (at_builtin; refine wpList_append_own_at _ rfl _ _ 22 rfl 0 24 i0 _ 4 56 Tryd.underlying22 hi hz0 hz1 hz2 rfl (by omega) (.slice (some ⟨g, 0, none⟩) (init.length + 1) c2) (init.length + 1) (valsAll (init ++ [l]) hd) rfl (PR2.out _ (ext_alloc HBW.out _)) ⟨w2.heap.size, 0, none⟩ 1 1 [.int .u8 s.kind, .int .i64 s.num, .string s.name, .slice A3 s.kids.length c3] rfl rfl (World.news_of_block (heap_alloc_new w2 _)) (by simp [Value.oneCell']) (by simp [maxLen]; omega) (by omega) (by omega) ?_; intro v' w3 hrow hgr _ hat; obtain ⟨g2, cap, rfl, _, _⟩ := hrow.form (by omega); have hgr2 : (w2.alloc (.cells #[.int .u8 s.kind, .int .i64 s.num, .string s.name, .slice A3 s.kids.length c3] 24)).grownBy w3 (Value.slice (some ⟨g, 0, none⟩) (init ++ [l]).length c2).ownBlock := hgr; have hu := HE.out.after HP.out (ext_trans HB1.out (ext_alloc HBW.out _)) hgr2; rw [EL.out] at hu; obtain ⟨r0, r1, r2, r3⟩ := four_cells hu; have rf := blk_free hu 3; have HU := Hd.mk hu; clear hu)
          go_roundw
          case rel =>
            have Z := HE.out.push (g := g2) (cap := cap) HP.out (ext_trans HB1.out (ext_alloc HBW.out _)) (Nat.le_refl _) (HO1.out.below (ext_alloc HBW.out _)) (by rw [EL.out]; exact hrow) hgr2 ?_ (by rw [EL.out]; omega)
            · rw [EL.out] at Z
              refine ⟨j + 1, _, _, _, hlt, by go_num, ⟨by simp; omega, ?_⟩, Z⟩
              rw [← HS.out.2, NX.out]
              simp [pushC, HCB.out]
            · rcases hat with h | h
              · exact .inl h.symm
              · exact .inr (Option.some.inj h)
          case measure => simp [intOf]; omega
        · go_wp2_with fail
          go_roundw
          case rel =>
            refine ⟨j + 1, _, _, init, hlt, by go_num, ⟨by omega, ?_⟩, HE2.out.pop rfl⟩
            rw [← HS.out.2, NX.out]
            simp [pushC, HCB.out]
          case measure => simp [intOf]; omega
    · have : j = t.kids.length := by omega
      subst this
      have hS := HS.out.2
      simp only [List.drop_length, simpAll] at hS
      have hal := HS.out.1
      subst hS
      obtain ⟨o0, o1, o2, o3⟩ := four_cells E.out
      obtain ⟨⟨x0, x1, x2, x3⟩, ⟨y0, y1, y2, y3⟩, ⟨f0, f1, f2, f3⟩, hz2⟩ := E.boxes.facts
      have HE2 := Hd.mk E
      have hi3 := E.hi
      clear E
      go_wp2_with fail
      have hown := HE2.out.own
      rw [← Node.simp_eq] at hown
      have ek : t.simp.kind = 57 ∧ t.simp.num = 0 ∧ t.simp.name = ⟨#[]⟩ ∧ t.simp.kids.length = (simpAll [] t.kids).length := by rw [Node.simp_eq]; simp
      refine bodyPost_ret (v := .agg #[.int .u8 t.simp.kind, .int .i64 t.simp.num, .string t.simp.name, .slice A2 t.simp.kids.length c2]) ?_ rfl ⟨A2, c2, rfl, ?_, ?_⟩
      · rw [ek.1, ek.2.1, ek.2.2.1, ek.2.2.2]
        have hc := res_cells (u0 := .int .u8 57) (u1 := .int .i64 0) (u2 := .string ⟨#[]⟩) (u3 := .slice A2 (simpAll [] t.kids).length c2) HE2.out.boxes.res
        simp [results, Tryd.results42, go_sem, hc]
      · exact res_below HE2.out.boxes.below (by omega) _ _ _ _
      · exact Node.Own.mono (res_own hown (fun h => by have : w.heap.size + 3 ≤ w.heap.size + 1 := h; omega)) (fun x hx => by have : w.heap.size + 3 ≤ x := hx; omega)
end Go.Proofs.YtgjanglonccclaaDoor
