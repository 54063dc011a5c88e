/- Contract of ast.Clone: the same tree in new memory. -/
import Derived.Test.YtgjanglonccclaaDoorOwn
import Derived.Test.YtgjanglonccclaaDoorLex
import Derived.Deep.RegionLaw
import Derived.Test.YtgjanglonccclaaDoorAst2
namespace Go.Proofs.YtgjanglonccclaaDoor
open Go.RowKit
set_option linter.unusedVariables false
set_option linter.unusedSimpArgs false

theorem infoNode : (Tryd.prog.info? 24).map (fun i => (i.zero, i.size, i.bytes)) = some (some (.agg #[(.int .u8 0), (.int .i64 0), (.string ⟨#[]⟩), (.slice none 0 0)]), 4, 56) := by kernel_rfl

/-- While Clone goes through the children. -/
structure CloneInv (w W : World) (t : Node) (j : Nat) (A : Option Addr) (c : Nat) : Prop where
  below : Below w.heap.size w W
  size : w.heap.size + 2 ≤ W.heap.size
  box : W.heap[w.heap.size]? = some (.cells #[.int .u8 t.kind, .int .i64 t.num, .string t.name, .slice A j c] 24)
  res : W.heap[w.heap.size + 1]? = some (.cells #[.int .u8 0, .int .i64 0, .string ⟨#[]⟩, .slice none 0 0] 24)
  own : (⟨t.kind, t.num, t.name, t.kids.take j⟩ : Node).Own W ⟨A, c, fun x => w.heap.size + 2 ≤ x⟩

theorem CloneInv.step {w wr w1 w2 : World} {t : Node} {j : Nat} {A' : Option Addr} {c' : Nat} (CI : CloneInv w wr t j A' c') (hlt : j < t.kids.length) (hl : (t.kids.length : Int) ≤ 2513169434916) {hs : List Hdr}
    (P : OwnParts wr (t.kids.take j) (Hdr.tight wr ⟨A', c', fun x => w.heap.size + 2 ≤ x⟩) hs) (hf : t.Fits) {A2 : Option Addr} {c2 g cap : Nat} (hbw : Below wr.heap.size wr w1)
    (ho : t.kids[j].Own w1 ⟨A2, c2, fun x => wr.heap.size + 1 ≤ x⟩)
    (hrow : w2.ownsRow 0 24 4 (.slice (some ⟨g, 0, none⟩) (j + 1) cap) (j + 1) (valsAll (t.kids.take j) hs ++ [.int .u8 t.kids[j].kind, .int .i64 t.kids[j].num, .string t.kids[j].name, .slice A2 t.kids[j].kids.length c2]))
    (hgr : (w1.alloc (.cells #[.int .u8 t.kids[j].kind, .int .i64 t.kids[j].num, .string t.kids[j].name, .slice A2 t.kids[j].kids.length c2] 24)).grownBy w2 (Value.slice A' j c').ownBlock)
    (hat : (Value.slice A' j c').ownBlock = some g ∨ g = w1.heap.size + 1) :
    CloneInv w (w2.setCell ⟨w.heap.size, 3, none⟩ (.slice (some ⟨g, 0, none⟩) (j + 1) cap)) t (j + 1) (some ⟨g, 0, none⟩) cap := by
  have hsz := CI.size
  have hsz1 := hbw.size
  have hlj : (t.kids.take j).length = j := by rw [List.length_take]; omega
  obtain ⟨W, hW⟩ : ∃ W, w1.alloc (.cells #[.int .u8 t.kids[j].kind, .int .i64 t.kids[j].num, .string t.kids[j].name, .slice A2 t.kids[j].kids.length c2] 24) = W := ⟨_, rfl⟩
  have hWs : W.heap.size = w1.heap.size + 1 := by rw [← hW]; simp
  have hW1 : Below w1.heap.size w1 W := by rw [← hW]; exact ext_alloc (Below.refl _ _) _
  rw [hW] at hgr
  have hv : ((Hdr.tight wr ⟨A', c', fun x => w.heap.size + 2 ≤ x⟩).val (t.kids.take j).length) = .slice A' j c' := by rw [hlj]; rfl
  have NE : ∀ x, x < w.heap.size + 2 → some x ≠ (Value.slice A' j c').ownBlock := fun x hx h => by
    have := (P.mine x (by rw [hv]; exact h.symm)).1.1
    simp at this; omega
  have hgs := hgr.size
  have hown2 := Node.Own.snoc (w := W) (w1 := w2) (k := t.kind) (n := t.num) (s := t.name) (g := g) (cap := cap) (u := t.kids[j]) (hu := Hdr.tight W ⟨A2, c2, fun x => wr.heap.size + 1 ≤ x⟩)
    ⟨hf.kind0, hf.kind1, hf.num0, hf.num1, hf.name⟩ (P.below (ext_trans hbw hW1)) (fun x hx => by have := hx.2; omega) (Node.Own.tight _ (ho.below hW1)) (fun x hx hy => by have h1 : wr.heap.size + 1 ≤ x := hx.1; have h2 : x < wr.heap.size := hy.2; omega) (fun x hx => hx.2)
    (by rw [hlj]; exact hrow) (by rw [hv]; exact hgr) (by rw [hv, hWs]; exact hat) (by rw [hlj]; omega)
  have hbox2 : w2.heap[w.heap.size]? = some (.cells #[.int .u8 t.kind, .int .i64 t.num, .string t.name, .slice A' j c'] 24) := by
    rw [hgr.block _ (by omega) (NE _ (by omega)), hW1.block _ (by omega), hbw.block _ (by omega)]; exact CI.box
  refine ⟨?_, ?_, ?_, ?_, ?_⟩
  · refine Below.setCell (p := ⟨w.heap.size, 3, none⟩) ?_ (Nat.le_refl _) _
    refine (((CI.below.trans (hbw.mono (by omega))).trans (hW1.mono (by omega))).grown hgr (by omega) (fun k hk => ?_))
    have := NE k
    rcases Nat.lt_or_ge k (w.heap.size + 2) with h | h
    · exact absurd hk.symm (NE k h)
    · omega
  · simp only [World.setCell, Array.size_modify]; omega
  · rw [set_blk hbox2]; simp
  · rw [Below.heap_setCell _ _ _ _ (by simp), hgr.block _ (by omega) (NE _ (by omega)), hW1.block _ (by omega), hbw.block _ (by omega)]; exact CI.res
  · rw [List.take_succ_eq_append_getElem hlt]
    refine Node.Own.move (w := w2) _ (fun x hx _ => set_other (by have : w.heap.size + 2 ≤ x := hx; omega)) (Node.Own.mono hown2 (fun x hx => ?_))
    rcases hx with hx | hx | hx
    · exact hx.1
    · have : wr.heap.size + 1 ≤ x := hx.1; omega
    · omega

/-- A new tree as a result. -/
def Fresh (w : World) (t : Node) (e : Ending) (w' : World) : Prop :=
  ∃ A c, e = .returned (.agg #[.int .u8 t.kind, .int .i64 t.num, .string t.name, .slice A t.kids.length c]) ∧ Below w.heap.size w w' ∧ t.Own w' ⟨A, c, fun x => w.heap.size ≤ x⟩

set_option maxHeartbeats 4000000 in
set_option maxRecDepth 100000 in
theorem clone_any (t : Node) : ∀ (A : Option Addr) (c : Nat) (w : World) (ok : Nat → Prop), t.In w ok A c →
    Calls Tryd.prog 21 #[.agg #[.int .u8 t.kind, .int .i64 t.num, .string t.name, .slice A t.kids.length c]] w (Fresh w t) := by
  induction t using Node.ind with
  | h t ih =>
  intro A c w ok h
  have H := Hd.mk h
  have IH := Hd.mk ih
  have hl := h.lenZ
  clear h ih
  obtain ⟨i0, hi, hz0, hz1, hz2⟩ := info_parts infoNode
  go_enter Tryd.func21, Tryd.ntmps21
  go_wp2_with fail
  go_loopw [5, 11] (fun v5 v11 W => ∃ (j : Nat) (A' : Option Addr) (c' : Nat), j ≤ t.kids.length ∧ v11 = .int .i64 j ∧ CloneInv w W t j A' c') (fun _ v11 _ => t.kids.length - (intOf v11).toNat)
  case atStart =>
    refine ⟨0, none, 0, Nat.zero_le _, rfl, ext_alloc (ext_alloc (Below.refl _ _) _) _, by simp, ?_, ?_, ?_⟩
    · rw [(Go.MapKept.heap_alloc _ _).2 _ (by simp)]; exact (Go.MapKept.heap_alloc w _).1
    · have := (Go.MapKept.heap_alloc (w.alloc (.cells #[.int .u8 t.kind, .int .i64 t.num, .string t.name, .slice none 0 0] 24)) (.cells #[.int .u8 0, .int .i64 0, .string ⟨#[]⟩, .slice none 0 0] 24)).1
      rw [World.size_alloc] at this
      exact this
    · have hf := H.out.fits
      exact Node.Own.leaf (t := ⟨t.kind, t.num, t.name, t.kids.take 0⟩) ⟨hf.kind0, hf.kind1, hf.num0, hf.num1, hf.name⟩ _ rfl
  case round =>
    obtain ⟨j, A', c', hj, rfl, CI⟩ := hrel
    by_cases hlt : j < t.kids.length
    · obtain ⟨b, o, A1, c1, rfl, e0, e1, e2, e3, h4⟩ := (H.out.below CI.below).at_ j hlt
      have IH1 := Hd.mk (IH.out t.kids[j] (List.getElem_mem _))
      obtain ⟨x0, x1, x2, x3⟩ := four_cells CI.box
      have x4 := blk_free CI.box 3
      have hsz : w.heap.size + 2 ≤ wr.heap.size := CI.size
      have hsz1 : w.heap.size < wr.heap.size := by omega
      obtain ⟨hfit, hlen, hs, P⟩ := Node.Own_eq.1 (Node.Own.tight _ CI.own)
      have hlj : (t.kids.take j).length = j := by rw [List.length_take]; omega
      have PR : ∀ W, Below wr.heap.size wr W → W.ownsRow 0 24 4 (.slice A' j c') j (valsAll (t.kids.take j) hs) := fun W hb => by
        have := (P.below hb).row
        rw [hlj] at this
        exact this
      have PM : ∀ b, (Value.slice A' j c').ownBlock = some b → w.heap.size + 2 ≤ b ∧ b < wr.heap.size := fun b hb => by
        have := P.mine b (by rw [hlj]; exact hb)
        exact this.1
      have NE := Hd.mk (show ∀ x, (x < w.heap.size + 2 ∨ wr.heap.size ≤ x) → some x ≠ (Value.slice A' j c').ownBlock from fun x hx h => by have := PM x h.symm; omega)
      have hlj2 := Hd.mk hlj
      have P2 := Hd.mk P
      have hf2 := Hd.mk hfit
      have hl2 := Hd.mk hlen
      have PR2 := Hd.mk PR
      have PM2 := Hd.mk PM
      have CI2 := Hd.mk CI
      clear hlj P hfit hlen CI PR PM
      go_wp2_with fail
      go_region_law
        (first
          | (refine step_append_lies _ (by rfl) _ _ _ (by rfl) 0 24 i0 _ 4 56 Tryd.underlying22 hi hz0 hz1 hz2 rfl (by omega) (.slice A' j c') j (valsAll (t.kids.take j) hs) (by rfl) hrow ⟨w1.heap.size, 0, none⟩ 1 1 [.int .u8 t.kids[j].kind, .int .i64 t.kids[j].num, .string t.kids[j].name, .slice A2 t.kids[j].kids.length c2] (by rfl) (by rfl) (World.news_of_block (heap_alloc_new w1 _)) (by simp [Value.oneCell']) (by omega) (by simp [maxLen]; omega) (by omega) (by omega) (w1.heap.size + 1) (by simp) ?_; intro g cap w2 hrow2 hgr hat hlt2; have u0 := cell_after hgr y0 (NE.out _ (by omega)); have u1 := cell_after hgr z0 (NE.out _ (by omega)); have u2 := cell_after hgr z1 (NE.out _ (by omega)); have u3 := cell_after hgr z2 (NE.out _ (by omega)); have u4 := cell_after hgr z3 (NE.out _ (by omega)); have u5 := Hd.mk (block_after hgr ((hbw.block _ (by omega)).trans CI2.out.box) (NE.out _ (by omega))); have u6 := blk_free u5.out 3)
          | (go_simp; go_at_call 21; refine (IH1.out A1 c1 _ ok (h4.below ((ext_alloc (Below.refl _ _) _).drew))).mono ?_; rintro e w1 ⟨A2, c2, rfl, hb, ho⟩; have hbw : Below wr.heap.size wr w1 := ext_trans ((ext_alloc (Below.refl _ _) _).drew) hb; have hsz2 : w.heap.size < w1.heap.size := (by have := hbw.size; omega); have y0 := hbw.cell (p := ⟨w.heap.size, 3, none⟩) (by simp; omega); rw [x3] at y0; obtain ⟨z0, z1, z2, z3⟩ := box_cells (ext_trans ((Below.refl _ _).drew) hb); have hrow := PR2.out _ (ext_alloc hbw (.cells #[.int .u8 t.kids[j].kind, .int .i64 t.kids[j].num, .string t.kids[j].name, .slice A2 t.kids[j].kids.length c2] 24))))
      all_goals
        go_wp2_with fail
        go_roundw
        case rel => exact ⟨j + 1, _, _, hlt, by go_num, CI2.out.step hlt hl P2.out H.out.fits hbw (by simpa using ho) hrow2 hgr hat⟩
        case measure => simp [intOf]; omega
    · have : j = t.kids.length := by omega
      subst this
      obtain ⟨x0, x1, x2, x3⟩ := four_cells CI.box
      obtain ⟨y0, y1, y2, y3⟩ := four_cells CI.res
      have f0 := blk_free CI.res 0
      have f1 := blk_free CI.res 1
      have f2 := blk_free CI.res 2
      have f3 := blk_free CI.res 3
      have CI2 := Hd.mk CI
      clear CI
      go_wp2_with fail
      have hb := CI2.out.res
      have hs := CI2.out.size
      have hown := CI2.out.own
      have hbel := CI2.out.below
      clear CI2 IH
      refine bodyPost_ret (v := .agg #[.int .u8 t.kind, .int .i64 t.num, .string t.name, .slice A' t.kids.length c']) ?_ rfl ⟨A', c', rfl, ?_, ?_⟩
      · have e := set_blk (set_blk (set_blk (set_blk hb 0 (.int .u8 t.kind)) 1 (.int .i64 t.num)) 2 (.string t.name)) 3 (.slice A' t.kids.length c')
        have hc := four_cells (by simpa using e)
        simp [results, Tryd.results21, go_sem, hc]
      · refine (((hbel.setCell ?_ _).setCell ?_ _).setCell ?_ _).setCell ?_ _ <;> simp
      · rw [List.take_length] at hown
        have h1 : t.Own wr ⟨A', c', fun x => w.heap.size + 2 ≤ x⟩ := by rw [Node.eta] at hown; exact hown
        refine Node.Own.mono (Node.Own.move _ (fun x hx _ => ?_) h1) (fun x hx => by have : w.heap.size + 2 ≤ x := hx; omega)
        have : w.heap.size + 2 ≤ x := hx
        rw [set_other (by omega), set_other (by omega), set_other (by omega), set_other (by omega)]
end Go.Proofs.YtgjanglonccclaaDoor
