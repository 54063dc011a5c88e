/- Contracts of inverter.invert, inverted and Stmt. -/
import Derived.Test.YtgjanglonccclaaDoorInv4
import Derived.Test.YtgjanglonccclaaDoorInv5
import Derived.Test.YtgjanglonccclaaDoorInvP3
import Derived.Test.YtgjanglonccclaaDoorClone
import Derived.Test.YtgjanglonccclaaDoorBoxes
import Derived.Test.YtgjanglonccclaaDoorAst4
namespace Go.Proofs.YtgjanglonccclaaDoor
open Go.RowKit
set_option linter.unusedVariables false
set_option linter.unusedSimpArgs false

theorem invert_any (t : Node) : (t.isStmt = true ∨ t.isBlock = true) → InvRuns t := by
  induction t using Node.ind with
  | h t ih =>
  intro hs ⟨A, c, F⟩ b o w ho hF hfr c0 c1 c2 c3
  have hfit := (Node.Own_eq.1 ho).1
  obtain ⟨_, hlen, hd, P⟩ := Node.Own_eq.1 ho
  have hl : (t.kids.length : Int) ≤ 2513169434916 := by omega
  have hp : InvPre w t ⟨A, c, F⟩ b o hd := ⟨P, hF, hfr, c0, c1, c2, c3⟩
  have hr := invKind_range hfit.kind0 hfit.kind1
  have fin : ∀ (w' : World) (ks : List Node) (hs' : List Hdr), InvState w w' t ⟨A, c, F⟩ b o ks hs' → t.inv = ⟨invKind t.kind, t.num, t.name, ks⟩ →
      Turned w w' b o (.int .u8 (invKind t.kind)) F ∧ t.inv.Own w' ⟨A, c, F⟩ := fun w' ks hs' S e => by
    refine ⟨S.turned, ?_⟩
    rw [e, Node.Own_eq]
    exact ⟨⟨hr.1, hr.2, hfit.num0, hfit.num1, hfit.name⟩, by have := S.len; simp only; omega, hs', S.parts⟩
  have hB : ∀ k ∈ t.kids, (k.kind == 57) = true → t.isStmt = true → InvRuns k := fun k hk h57 hst => ih k hk (.inr (isStmt_kids hst k hk h57))
  have he := t.inv_eq
  rcases hs with hst | hbl
  · have hn57 := isStmt_kind hst
    by_cases h4 : t.kind = 52 ∨ t.kind = 53
    · have e : invKind t.kind = t.kind := invKind_fixed _ (by omega)
      refine (invert_swap4 t (fun k hk h57 => hB k hk h57 hst) (by rw [e]; simpa using h4) (isStmt_four hst h4) A c F b o w hd hp hl).mono ?_
      rintro e1 w' ⟨rfl, hs', S⟩
      refine ⟨rfl, fin w' _ _ S ?_⟩
      rw [he, invBlocks_map]
      rcases h4 with h4 | h4 <;> simp [h4]
    · by_cases h3 : t.kind = 54
      · have e : invKind t.kind = t.kind := invKind_fixed _ (by omega)
        refine (invert_swap3 t (fun k hk h57 => hB k hk h57 hst) (by rw [e]; simpa using h3) (isStmt_three hst h3) A c F b o w hd hp hl).mono ?_
        rintro e1 w' ⟨rfl, hs', S⟩
        refine ⟨rfl, fin w' _ _ S ?_⟩
        rw [he, invBlocks_map]
        simp [h3]
      · have q : ∀ m : Int, (m = 52 ∨ m = 53 ∨ m = 54 ∨ m = 57) → (invKind t.kind == m) = false := fun m hm => by
          rw [beq_eq_false_iff_ne]
          intro e
          have := invKind_back _ _ hm e
          rw [beq_eq_false_iff_ne] at hn57
          omega
        refine (invert_plain t (fun k hk h57 => hB k hk h57 hst) (q 52 (by omega)) (q 53 (by omega)) (q 54 (by omega)) (q 57 (by omega)) A c F b o w hd hp hl).mono ?_
        rintro e1 w' ⟨rfl, S⟩
        refine ⟨rfl, fin w' _ _ S ?_⟩
        rw [he, invBlocks_map, hn57]
        have h1 : (t.kind == 52 || (t.kind == 53 || t.kind == 54)) = false := by simp; omega
        rw [h1]; rfl
  · have h57 := isBlock_kind hbl
    have e : invKind t.kind = t.kind := invKind_fixed _ (by simp at h57; omega)
    refine (invert_block t (fun k hk => ih k hk (.inl (isBlock_kids hbl k hk))) (fun k hk => isStmt_kind (isBlock_kids hbl k hk)) (by rw [e]; exact h57) A c F b o w hd hp hl).mono ?_
    rintro e1 w' ⟨rfl, hs', S⟩
    refine ⟨rfl, fin w' _ _ S ?_⟩
    rw [he, invAll_map, h57]; rfl

theorem inverted_any (t : Node) (ht : t.isStmt = true ∨ t.isBlock = true) (A : Option Addr) (c : Nat) (w : World) (ok : Nat → Prop) (h : t.In w ok A c) :
    Calls Tryd.prog 41 #[.agg #[.int .u8 t.kind, .int .i64 t.num, .string t.name, .slice A t.kids.length c]] w (Fresh w t.inv) := by
  have HC := Hd.mk (fun W (hb : Below w.heap.size w W) => clone_any t A c W ok (h.below hb))
  have HI := Hd.mk (invert_any t ht)
  clear h ht
  go_enter Tryd.func41, Tryd.ntmps41
  go_wp2_with (go_at_call 21; refine (HC.out _ (ext_alloc (ext_alloc (Below.refl _ _) _) _)).mono ?_; rintro e w1 ⟨A1, c1, rfl, hb, ho⟩)
  have HO := Hd.mk (Node.Own.tight _ ho)
  have hs1 : w.heap.size + 2 ≤ w1.heap.size := by have := hb.size; simpa using this
  have hRes : w1.heap[w.heap.size + 1]? = some (.cells #[.int .u8 0, .int .i64 0, .string ⟨#[]⟩, .slice none 0 0] 24) := by
    rw [hb.block _ (by simp)]
    have := (Go.MapKept.heap_alloc (w.alloc (.cells #[.int .u8 t.kind, .int .i64 t.num, .string t.name, .slice A t.kids.length c] 24)) (.cells #[.int .u8 0, .int .i64 0, .string ⟨#[]⟩, .slice none 0 0] 24)).1
    rw [World.size_alloc] at this
    exact this
  clear ho
  have nF : ¬ (Hdr.tight w1 ⟨A1, c1, fun x => ((w.alloc (.cells #[.int .u8 t.kind, .int .i64 t.num, .string t.name, .slice A t.kids.length c] 24)).alloc (.cells #[.int .u8 0, .int .i64 0, .string ⟨#[]⟩, .slice none 0 0] 24)).heap.size ≤ x⟩).F w1.heap.size := fun h => by have := h.2; omega
  have q := four_cells (Go.MapKept.heap_alloc w1 (.cells #[.int .u8 t.kind, .int .i64 t.num, .string t.name, .slice A1 t.kids.length c1] 24)).1
  refine (HI.out _ w1.heap.size 0 _ (HO.out.below (ext_alloc (Below.refl _ _) _)) nF (blk_free (Go.MapKept.heap_alloc w1 _).1 0) q.1 q.2.1 q.2.2.1 q.2.2.2).mono ?_
  rintro e w2 ⟨rfl, hT, hO2⟩
  have x0 := hT.cell_at nF q.1
  have x1 := hT.cell nF (by omega) q.2.1
  have x2 := hT.cell nF (by omega) q.2.2.1
  have x3 := hT.cell nF (by omega) q.2.2.2
  have hsz := hT.size
  have hR : w2.heap[w.heap.size + 1]? = some (.cells #[.int .u8 0, .int .i64 0, .string ⟨#[]⟩, .slice none 0 0] 24) := by
    rw [hT.other (by simp; omega) (by omega) (fun h => by have := h.1; simp at this; omega), (Go.MapKept.heap_alloc w1 _).2 _ (by omega)]
    exact hRes
  obtain ⟨y0, y1, y2, y3⟩ := four_cells hR
  have f0 := blk_free hR 0
  have f1 := blk_free hR 1
  have f2 := blk_free hR 2
  have f3 := blk_free hR 3
  have HR := Hd.mk hR
  have HT := Hd.mk hT
  have HO2 := Hd.mk hO2
  have HB := Hd.mk hb
  clear hR q hRes HO HC HI hT hO2 hb
  go_wp2_with fail
  refine bodyPost_ret (v := .agg #[.int .u8 t.inv.kind, .int .i64 t.inv.num, .string t.inv.name, .slice A1 t.inv.kids.length c1]) ?_ rfl ⟨A1, c1, rfl, ?_, ?_⟩
  · rw [Node.inv_kind, Node.inv_num, Node.inv_name, Node.inv_kids_length]
    have hc := res_cells (u0 := .int .u8 (invKind t.kind)) (u1 := .int .i64 t.num) (u2 := .string t.name) (u3 := .slice A1 t.kids.length c1) HR.out
    simp [results, Tryd.results41, go_sem, hc]
  · refine res_below ?_ (by omega) _ _ _ _
    have b1 := ext_alloc (ext_trans (ext_alloc (ext_alloc (Below.refl w.heap.size w) _) _) HB.out) (.cells #[.int .u8 t.kind, .int .i64 t.num, .string t.name, .slice A1 t.kids.length c1] 24)
    exact b1.trans (HT.out.keeps (by omega) (fun x hx => by have := hx.1; simp at this; omega) (by simp; omega))
  · exact Node.Own.mono (res_own HO2.out (fun h => by have := h.1; simp at this; omega)) (fun x hx => by have := hx.1; simp at this; omega)

/-- What Stmt returns of a statement or block. -/
def InvRet (w : World) (t : Node) (e : Ending) (w' : World) : Prop :=
  ∃ A c, e = .returned (.tuple #[.agg #[.int .u8 t.kind, .int .i64 t.num, .string t.name, .slice A t.kids.length c], .int .i64 0]) ∧ Below w.heap.size w w' ∧ t.Own w' ⟨A, c, fun x => w.heap.size ≤ x⟩
set_option maxHeartbeats 1000000 in
theorem invStmt_any (t : Node) (ht : t.isStmt = true ∨ t.isBlock = true) (A : Option Addr) (c : Nat) (w : World) (ok : Nat → Prop) (hw : Good w) (h : t.In w ok A c) :
    Calls Tryd.prog 16 #[.agg #[.int .u8 t.kind, .int .i64 t.num, .string t.name, .slice A t.kids.length c]] w (InvRet w t.inv) := by
  have HS := Hd.mk (fun W (hb : Below w.heap.size w W) => isStmt_any t A c W ok (hw.below hb) (h.below hb))
  have HB := Hd.mk (fun W (hb : Below w.heap.size w W) => isBlock_any t A c W ok (hw.below hb) (h.below hb))
  have HI := Hd.mk (fun W (hb : Below w.heap.size w W) => inverted_any t ht A c W ok (h.below hb))
  have B0 := Hd.mk (Boxes.start w t A c)
  clear hw h
  cases hs : t.isStmt
  · have hbk : t.isBlock = true := by
      rcases ht with h | h
      · rw [hs] at h; cases h
      · exact h
    rw [hs] at HS
    rw [hbk] at HB
    clear hs hbk ht
    go_enter Tryd.func16, Tryd.ntmps16
    go_wp2_with fail
    refine (HS.out _ B0.out.below).mono ?_
    rintro e w1 ⟨rfl, hb⟩
    have B1 := Hd.mk (B0.out.next hb)
    obtain ⟨⟨x0, x1, x2, x3⟩, ⟨y0, y1, y2, y3⟩, ⟨f0, f1, f2, f3⟩, hz⟩ := B1.out.facts
    go_wp2_with fail
    refine (HB.out _ B1.out.below).mono ?_
    rintro e w2 ⟨rfl, hb2⟩
    have B2 := Hd.mk (B1.out.next hb2)
    obtain ⟨⟨x0, x1, x2, x3⟩, ⟨y0, y1, y2, y3⟩, ⟨f0, f1, f2, f3⟩, hz⟩ := B2.out.facts
    go_wp2_with fail
    refine (HI.out _ B2.out.below).mono ?_
    rintro e w3 ⟨A3, c3, rfl, hb3, ho3⟩
    have B3 := Hd.mk (B2.out.next hb3)
    have HO := Hd.mk (B2.out.out hb3 ho3 (.int .u8 t.inv.kind) (.int .i64 t.inv.num) (.string t.inv.name) (.slice A3 t.inv.kids.length c3))
    obtain ⟨⟨x0, x1, x2, x3⟩, ⟨y0, y1, y2, y3⟩, ⟨f0, f1, f2, f3⟩, hz⟩ := B3.out.facts
    clear ho3 hb3 hb hb2
    go_wp2_with fail
    refine bodyPost_ret (v := .tuple #[.agg #[.int .u8 t.inv.kind, .int .i64 t.inv.num, .string t.inv.name, .slice A3 t.inv.kids.length c3], .int .i64 0]) ?_ rfl ⟨A3, c3, rfl, HO.out.1, HO.out.2⟩
    have hc := res_cells (u0 := .int .u8 t.inv.kind) (u1 := .int .i64 t.inv.num) (u2 := .string t.inv.name) (u3 := .slice A3 t.inv.kids.length c3) B3.out.res
    simp [results, Tryd.results16, go_sem, hc]
  · rw [hs] at HS
    clear hs ht
    go_enter Tryd.func16, Tryd.ntmps16
    go_wp2_with fail
    refine (HS.out _ B0.out.below).mono ?_
    rintro e w1 ⟨rfl, hb⟩
    have B1 := Hd.mk (B0.out.next hb)
    obtain ⟨⟨x0, x1, x2, x3⟩, ⟨y0, y1, y2, y3⟩, ⟨f0, f1, f2, f3⟩, hz⟩ := B1.out.facts
    go_wp2_with fail
    refine (HI.out _ B1.out.below).mono ?_
    rintro e w3 ⟨A3, c3, rfl, hb3, ho3⟩
    have B3 := Hd.mk (B1.out.next hb3)
    have HO := Hd.mk (B1.out.out hb3 ho3 (.int .u8 t.inv.kind) (.int .i64 t.inv.num) (.string t.inv.name) (.slice A3 t.inv.kids.length c3))
    obtain ⟨⟨x0, x1, x2, x3⟩, ⟨y0, y1, y2, y3⟩, ⟨f0, f1, f2, f3⟩, hz⟩ := B3.out.facts
    clear ho3 hb3 hb
    go_wp2_with fail
    refine bodyPost_ret (v := .tuple #[.agg #[.int .u8 t.inv.kind, .int .i64 t.inv.num, .string t.inv.name, .slice A3 t.inv.kids.length c3], .int .i64 0]) ?_ rfl ⟨A3, c3, rfl, HO.out.1, HO.out.2⟩
    have hc := res_cells (u0 := .int .u8 t.inv.kind) (u1 := .int .i64 t.inv.num) (u2 := .string t.inv.name) (u3 := .slice A3 t.inv.kids.length c3) B3.out.res
    simp [results, Tryd.results16, go_sem, hc]
end Go.Proofs.YtgjanglonccclaaDoor
