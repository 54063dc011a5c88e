/- Contracts of ast.exprs and ast.IsExpr. -/
import Derived.Test.YtgjanglonccclaaDoorAst1
import Derived.Test.YtgjanglonccclaaDoorLex3
namespace Go.Proofs.YtgjanglonccclaaDoor
open Go.RowKit
set_option linter.unusedVariables false
set_option linter.unusedSimpArgs false

/-- What IsExpr does with a tree. -/
def ExprRuns (t : Node) : Prop := ∀ (A : Option Addr) (c : Nat) (w : World) (ok : Nat → Prop), Good w → t.In w ok A c →
  Calls Tryd.prog 35 #[.agg #[.int .u8 t.kind, .int .i64 t.num, .string t.name, .slice A t.kids.length c]] w fun e w' => e = .returned (.bool t.isExpr) ∧ Below w.heap.size w w'

theorem goes_exprs1 : Goes 83 := goes_of Tryd.func83 (by kernel_rfl) rfl
theorem exprs1_any (t : Node) (ht : ExprRuns t) (A : Option Addr) (c : Nat) (w : World) (ok : Nat → Prop) (hw : Good w) (h : t.In w ok A c) :
    Calls Tryd.prog 83 #[.agg #[.int .u8 t.kind, .int .i64 t.num, .string t.name, .slice A t.kids.length c]] w fun e w' => e = .returned (.bool !t.isExpr) ∧ Below w.heap.size w w' := by
  have HT := Hd.mk (fun W hb => ht A c W ok (hw.below hb) (h.below hb))
  clear hw h ht
  go_enter Tryd.func83, Tryd.ntmps83
  go_wp2_with (go_at_call 35; refine (HT.out _ (ext_alloc (Below.refl _ _) _)).mono ?_; rintro e w1 ⟨rfl, hb⟩)
  go_ret
  exact ⟨rfl, ext_trans (ext_alloc (Below.refl _ _) _) hb⟩

theorem exprs_any (t : Node) (many : Int) (A : Option Addr) (c : Nat) (w : World) (ok : Nat → Prop) (hw : Good w) (h : t.In w ok A c) (ht : ∀ k ∈ t.kids, ExprRuns k) :
    Calls Tryd.prog 56 #[.slice A t.kids.length c, .int .i64 many] w fun e w' => e = .returned (.bool ((t.kids.length : Int) == many && t.kids.all Node.isExpr)) ∧ Below w.heap.size w w' := by
  have HC := Hd.mk (contains_any t A c w ok h _ goes_exprs1 (fun k => !k.isExpr) (fun k hk W A1 c1 args hb hin ha => by subst ha; exact exprs1_any k (ht k hk) A1 c1 W ok (hw.below hb) hin))
  have hl := h.lenZ
  have HX := Hd.mk (show (!t.kids.any fun k => !k.isExpr) = t.kids.all Node.isExpr by rw [List.not_any_eq_all_not]; simp)
  clear h ht hw
  cases hm : ((t.kids.length : Int) == many)
  · go_enter Tryd.func56, Tryd.ntmps56
    go_wp2_with fail
    go_ret
    exact ⟨rfl, Below.refl _ _⟩
  · go_enter Tryd.func56, Tryd.ntmps56
    go_wp2_with (refine (HC.out).mono ?_; rintro e w1 ⟨rfl, hb⟩)
    go_ret
    exact ⟨ret_bool (by rw [Bool.true_and, ← HX.out]), hb⟩

theorem len_zero_beq {α : Type} (l : List α) : ((l.length : Int) == 0) = l.isEmpty := by cases l <;> simp <;> omega

set_option maxHeartbeats 8000000 in
theorem isExpr_any (t : Node) : ExprRuns t := by
  induction t using Node.ind with
  | h t ih =>
  intro A c w ok hw h
  have HB := Hd.mk (bare_any t A c)
  have HN := Hd.mk (fun W hb => name_any t.name h.fits.name W (hw.below (w' := W) hb))
  have HE := Hd.mk (fun W hb (m : Int) => exprs_any t m A c W ok (hw.below (w' := W) hb) (h.below hb) ih)
  have hl := h.lenZ
  have HX := Hd.mk t.isExpr_eq
  clear hw h ih
  cases k1 : (t.kind == 1)
  · rw [k1, if_neg (by decide)] at HX
    cases k2 : (t.kind == 2)
    · cases k4 : (t.kind == 4)
      · cases k5 : (t.kind == 5)
        · rw [k2, k4, k5, if_neg (by decide)] at HX
          cases k3 : (t.kind == 3)
          · rw [k3, if_neg (by decide)] at HX
            cases k6 : (t.kind == 6)
            · cases k7 : (t.kind == 7)
              · rw [k6, k7, if_neg (by decide)] at HX
                cases k8 : decide (8 ≤ t.kind)
                · rw [k8, if_neg (by simp)] at HX
                  go_enter Tryd.func35, Tryd.ntmps35
                  go_wp2_with fail
                  go_ret
                  exact ⟨ret_bool HX.out.symm, ext_alloc (Below.refl _ _) _⟩
                · cases k23 : decide (t.kind ≤ 23)
                  · rw [k8, k23, if_neg (by simp)] at HX
                    go_enter Tryd.func35, Tryd.ntmps35
                    go_wp2_with fail
                    go_ret
                    exact ⟨ret_bool HX.out.symm, ext_alloc (Below.refl _ _) _⟩
                  · rw [k8, k23, if_pos (by simp)] at HX
                    cases a1 : (t.num == 0)
                    · rw [a1] at HB
                      go_enter Tryd.func35, Tryd.ntmps35
                      go_wp2_with (first | (go_at_call 31; refine (HB.out _).mono ?_; rintro e w1 ⟨rfl, hb⟩; obtain ⟨x0, x1, x2, x3⟩ := box_cells hb) | (go_at_call 32; refine (HN.out _ (ext_trans (ext_alloc (Below.refl _ _) _) hb)).mono ?_; rintro e w2 ⟨rfl, hb2⟩; obtain ⟨y0, y1, y2, y3⟩ := box_cells (ext_trans hb hb2); have hb := ext_trans hb hb2) | (go_at_call 56; refine (HE.out _ (ext_trans (ext_alloc (Below.refl _ _) _) hb) _).mono ?_; rintro e w3 ⟨rfl, hb3⟩; have hb := ext_trans hb hb3))
                      go_ret
                      exact ⟨ret_bool (by rw [HX.out]; simp [a1]), ext_trans (ext_alloc (Below.refl _ _) _) hb⟩
                    · rw [a1] at HB
                      cases a2 : t.name.toList.isEmpty
                      ·
                        go_enter Tryd.func35, Tryd.ntmps35
                        go_wp2_with (first | (go_at_call 31; refine (HB.out _).mono ?_; rintro e w1 ⟨rfl, hb⟩; obtain ⟨x0, x1, x2, x3⟩ := box_cells hb) | (go_at_call 32; refine (HN.out _ (ext_trans (ext_alloc (Below.refl _ _) _) hb)).mono ?_; rintro e w2 ⟨rfl, hb2⟩; obtain ⟨y0, y1, y2, y3⟩ := box_cells (ext_trans hb hb2); have hb := ext_trans hb hb2) | (go_at_call 56; refine (HE.out _ (ext_trans (ext_alloc (Below.refl _ _) _) hb) _).mono ?_; rintro e w3 ⟨rfl, hb3⟩; have hb := ext_trans hb hb3))
                        go_ret
                        exact ⟨ret_bool (by rw [HX.out, emptyB]; simp [a1, a2]), ext_trans (ext_alloc (Below.refl _ _) _) hb⟩
                      ·
                        go_enter Tryd.func35, Tryd.ntmps35
                        go_wp2_with (first | (go_at_call 31; refine (HB.out _).mono ?_; rintro e w1 ⟨rfl, hb⟩; obtain ⟨x0, x1, x2, x3⟩ := box_cells hb) | (go_at_call 32; refine (HN.out _ (ext_trans (ext_alloc (Below.refl _ _) _) hb)).mono ?_; rintro e w2 ⟨rfl, hb2⟩; obtain ⟨y0, y1, y2, y3⟩ := box_cells (ext_trans hb hb2); have hb := ext_trans hb hb2) | (go_at_call 56; refine (HE.out _ (ext_trans (ext_alloc (Below.refl _ _) _) hb) _).mono ?_; rintro e w3 ⟨rfl, hb3⟩; have hb := ext_trans hb hb3))
                        go_ret
                        exact ⟨ret_bool (by rw [HX.out, emptyB]; simp [a1, a2]), ext_trans (ext_alloc (Below.refl _ _) _) hb⟩
              · rw [k6, k7, if_pos (by decide)] at HX
                cases a1 : (t.num == 0)
                · rw [a1] at HB
                  go_enter Tryd.func35, Tryd.ntmps35
                  go_wp2_with (first | (go_at_call 31; refine (HB.out _).mono ?_; rintro e w1 ⟨rfl, hb⟩; obtain ⟨x0, x1, x2, x3⟩ := box_cells hb) | (go_at_call 32; refine (HN.out _ (ext_trans (ext_alloc (Below.refl _ _) _) hb)).mono ?_; rintro e w2 ⟨rfl, hb2⟩; obtain ⟨y0, y1, y2, y3⟩ := box_cells (ext_trans hb hb2); have hb := ext_trans hb hb2) | (go_at_call 56; refine (HE.out _ (ext_trans (ext_alloc (Below.refl _ _) _) hb) _).mono ?_; rintro e w3 ⟨rfl, hb3⟩; have hb := ext_trans hb hb3))
                  go_ret
                  exact ⟨ret_bool (by rw [HX.out]; simp [a1]), ext_trans (ext_alloc (Below.refl _ _) _) hb⟩
                · rw [a1] at HB
                  cases a2 : t.name.toList.isEmpty
                  ·
                    go_enter Tryd.func35, Tryd.ntmps35
                    go_wp2_with (first | (go_at_call 31; refine (HB.out _).mono ?_; rintro e w1 ⟨rfl, hb⟩; obtain ⟨x0, x1, x2, x3⟩ := box_cells hb) | (go_at_call 32; refine (HN.out _ (ext_trans (ext_alloc (Below.refl _ _) _) hb)).mono ?_; rintro e w2 ⟨rfl, hb2⟩; obtain ⟨y0, y1, y2, y3⟩ := box_cells (ext_trans hb hb2); have hb := ext_trans hb hb2) | (go_at_call 56; refine (HE.out _ (ext_trans (ext_alloc (Below.refl _ _) _) hb) _).mono ?_; rintro e w3 ⟨rfl, hb3⟩; have hb := ext_trans hb hb3))
                    go_ret
                    exact ⟨ret_bool (by rw [HX.out, emptyB]; simp [a1, a2]), ext_trans (ext_alloc (Below.refl _ _) _) hb⟩
                  ·
                    go_enter Tryd.func35, Tryd.ntmps35
                    go_wp2_with (first | (go_at_call 31; refine (HB.out _).mono ?_; rintro e w1 ⟨rfl, hb⟩; obtain ⟨x0, x1, x2, x3⟩ := box_cells hb) | (go_at_call 32; refine (HN.out _ (ext_trans (ext_alloc (Below.refl _ _) _) hb)).mono ?_; rintro e w2 ⟨rfl, hb2⟩; obtain ⟨y0, y1, y2, y3⟩ := box_cells (ext_trans hb hb2); have hb := ext_trans hb hb2) | (go_at_call 56; refine (HE.out _ (ext_trans (ext_alloc (Below.refl _ _) _) hb) _).mono ?_; rintro e w3 ⟨rfl, hb3⟩; have hb := ext_trans hb hb3))
                    go_ret
                    exact ⟨ret_bool (by rw [HX.out, emptyB]; simp [a1, a2]), ext_trans (ext_alloc (Below.refl _ _) _) hb⟩
            · rw [k6, if_pos (by simp)] at HX
              cases a1 : (t.num == 0)
              · rw [a1] at HB
                go_enter Tryd.func35, Tryd.ntmps35
                go_wp2_with (first | (go_at_call 31; refine (HB.out _).mono ?_; rintro e w1 ⟨rfl, hb⟩; obtain ⟨x0, x1, x2, x3⟩ := box_cells hb) | (go_at_call 32; refine (HN.out _ (ext_trans (ext_alloc (Below.refl _ _) _) hb)).mono ?_; rintro e w2 ⟨rfl, hb2⟩; obtain ⟨y0, y1, y2, y3⟩ := box_cells (ext_trans hb hb2); have hb := ext_trans hb hb2) | (go_at_call 56; refine (HE.out _ (ext_trans (ext_alloc (Below.refl _ _) _) hb) _).mono ?_; rintro e w3 ⟨rfl, hb3⟩; have hb := ext_trans hb hb3))
                go_ret
                exact ⟨ret_bool (by rw [HX.out]; simp [a1]), ext_trans (ext_alloc (Below.refl _ _) _) hb⟩
              · rw [a1] at HB
                cases a2 : t.name.toList.isEmpty
                ·
                  go_enter Tryd.func35, Tryd.ntmps35
                  go_wp2_with (first | (go_at_call 31; refine (HB.out _).mono ?_; rintro e w1 ⟨rfl, hb⟩; obtain ⟨x0, x1, x2, x3⟩ := box_cells hb) | (go_at_call 32; refine (HN.out _ (ext_trans (ext_alloc (Below.refl _ _) _) hb)).mono ?_; rintro e w2 ⟨rfl, hb2⟩; obtain ⟨y0, y1, y2, y3⟩ := box_cells (ext_trans hb hb2); have hb := ext_trans hb hb2) | (go_at_call 56; refine (HE.out _ (ext_trans (ext_alloc (Below.refl _ _) _) hb) _).mono ?_; rintro e w3 ⟨rfl, hb3⟩; have hb := ext_trans hb hb3))
                  go_ret
                  exact ⟨ret_bool (by rw [HX.out, emptyB]; simp [a1, a2]), ext_trans (ext_alloc (Below.refl _ _) _) hb⟩
                ·
                  go_enter Tryd.func35, Tryd.ntmps35
                  go_wp2_with (first | (go_at_call 31; refine (HB.out _).mono ?_; rintro e w1 ⟨rfl, hb⟩; obtain ⟨x0, x1, x2, x3⟩ := box_cells hb) | (go_at_call 32; refine (HN.out _ (ext_trans (ext_alloc (Below.refl _ _) _) hb)).mono ?_; rintro e w2 ⟨rfl, hb2⟩; obtain ⟨y0, y1, y2, y3⟩ := box_cells (ext_trans hb hb2); have hb := ext_trans hb hb2) | (go_at_call 56; refine (HE.out _ (ext_trans (ext_alloc (Below.refl _ _) _) hb) _).mono ?_; rintro e w3 ⟨rfl, hb3⟩; have hb := ext_trans hb hb3))
                  go_ret
                  exact ⟨ret_bool (by rw [HX.out, emptyB]; simp [a1, a2]), ext_trans (ext_alloc (Below.refl _ _) _) hb⟩
          · rw [k3, if_pos rfl] at HX
            cases a1 : (t.num == 0)
            · rw [a1] at HB
              go_enter Tryd.func35, Tryd.ntmps35
              go_wp2_with (first | (go_at_call 31; refine (HB.out _).mono ?_; rintro e w1 ⟨rfl, hb⟩; obtain ⟨x0, x1, x2, x3⟩ := box_cells hb) | (go_at_call 32; refine (HN.out _ (ext_trans (ext_alloc (Below.refl _ _) _) hb)).mono ?_; rintro e w2 ⟨rfl, hb2⟩; obtain ⟨y0, y1, y2, y3⟩ := box_cells (ext_trans hb hb2); have hb := ext_trans hb hb2) | (go_at_call 56; refine (HE.out _ (ext_trans (ext_alloc (Below.refl _ _) _) hb) _).mono ?_; rintro e w3 ⟨rfl, hb3⟩; have hb := ext_trans hb hb3))
              go_ret
              exact ⟨ret_bool (by rw [HX.out]; simp [a1]), ext_trans (ext_alloc (Below.refl _ _) _) hb⟩
            · rw [a1] at HB
              cases a2 : nameB t.name
              · rw [a2] at HN
                go_enter Tryd.func35, Tryd.ntmps35
                go_wp2_with (first | (go_at_call 31; refine (HB.out _).mono ?_; rintro e w1 ⟨rfl, hb⟩; obtain ⟨x0, x1, x2, x3⟩ := box_cells hb) | (go_at_call 32; refine (HN.out _ (ext_trans (ext_alloc (Below.refl _ _) _) hb)).mono ?_; rintro e w2 ⟨rfl, hb2⟩; obtain ⟨y0, y1, y2, y3⟩ := box_cells (ext_trans hb hb2); have hb := ext_trans hb hb2) | (go_at_call 56; refine (HE.out _ (ext_trans (ext_alloc (Below.refl _ _) _) hb) _).mono ?_; rintro e w3 ⟨rfl, hb3⟩; have hb := ext_trans hb hb3))
                go_ret
                exact ⟨ret_bool (by rw [HX.out]; simp [a1, a2]), ext_trans (ext_alloc (Below.refl _ _) _) hb⟩
              · rw [a2] at HN
                go_enter Tryd.func35, Tryd.ntmps35
                go_wp2_with (first | (go_at_call 31; refine (HB.out _).mono ?_; rintro e w1 ⟨rfl, hb⟩; obtain ⟨x0, x1, x2, x3⟩ := box_cells hb) | (go_at_call 32; refine (HN.out _ (ext_trans (ext_alloc (Below.refl _ _) _) hb)).mono ?_; rintro e w2 ⟨rfl, hb2⟩; obtain ⟨y0, y1, y2, y3⟩ := box_cells (ext_trans hb hb2); have hb := ext_trans hb hb2) | (go_at_call 56; refine (HE.out _ (ext_trans (ext_alloc (Below.refl _ _) _) hb) _).mono ?_; rintro e w3 ⟨rfl, hb3⟩; have hb := ext_trans hb hb3))
                go_ret
                exact ⟨ret_bool (by rw [HX.out]; simp [a1, a2]), ext_trans (ext_alloc (Below.refl _ _) _) hb⟩
        · rw [k2, k4, k5, if_pos (by decide)] at HX
          cases a1 : (t.num == 0)
          · rw [a1] at HB
            go_enter Tryd.func35, Tryd.ntmps35
            go_wp2_with (first | (go_at_call 31; refine (HB.out _).mono ?_; rintro e w1 ⟨rfl, hb⟩; obtain ⟨x0, x1, x2, x3⟩ := box_cells hb) | (go_at_call 32; refine (HN.out _ (ext_trans (ext_alloc (Below.refl _ _) _) hb)).mono ?_; rintro e w2 ⟨rfl, hb2⟩; obtain ⟨y0, y1, y2, y3⟩ := box_cells (ext_trans hb hb2); have hb := ext_trans hb hb2) | (go_at_call 56; refine (HE.out _ (ext_trans (ext_alloc (Below.refl _ _) _) hb) _).mono ?_; rintro e w3 ⟨rfl, hb3⟩; have hb := ext_trans hb hb3))
            go_ret
            exact ⟨ret_bool (by rw [HX.out]; simp [a1]), ext_trans (ext_alloc (Below.refl _ _) _) hb⟩
          · rw [a1] at HB
            cases a2 : nameB t.name
            · rw [a2] at HN
              go_enter Tryd.func35, Tryd.ntmps35
              go_wp2_with (first | (go_at_call 31; refine (HB.out _).mono ?_; rintro e w1 ⟨rfl, hb⟩; obtain ⟨x0, x1, x2, x3⟩ := box_cells hb) | (go_at_call 32; refine (HN.out _ (ext_trans (ext_alloc (Below.refl _ _) _) hb)).mono ?_; rintro e w2 ⟨rfl, hb2⟩; obtain ⟨y0, y1, y2, y3⟩ := box_cells (ext_trans hb hb2); have hb := ext_trans hb hb2) | (go_at_call 56; refine (HE.out _ (ext_trans (ext_alloc (Below.refl _ _) _) hb) _).mono ?_; rintro e w3 ⟨rfl, hb3⟩; have hb := ext_trans hb hb3))
              go_ret
              exact ⟨ret_bool (by rw [HX.out]; simp [a1, a2]), ext_trans (ext_alloc (Below.refl _ _) _) hb⟩
            · rw [a2] at HN
              go_enter Tryd.func35, Tryd.ntmps35
              go_wp2_with (first | (go_at_call 31; refine (HB.out _).mono ?_; rintro e w1 ⟨rfl, hb⟩; obtain ⟨x0, x1, x2, x3⟩ := box_cells hb) | (go_at_call 32; refine (HN.out _ (ext_trans (ext_alloc (Below.refl _ _) _) hb)).mono ?_; rintro e w2 ⟨rfl, hb2⟩; obtain ⟨y0, y1, y2, y3⟩ := box_cells (ext_trans hb hb2); have hb := ext_trans hb hb2) | (go_at_call 56; refine (HE.out _ (ext_trans (ext_alloc (Below.refl _ _) _) hb) _).mono ?_; rintro e w3 ⟨rfl, hb3⟩; have hb := ext_trans hb hb3))
              go_ret
              exact ⟨ret_bool (by rw [HX.out, ← len_zero_beq]; simp [a1, a2]), ext_trans (ext_alloc (Below.refl _ _) _) hb⟩
      · rw [k2, k4, if_pos (by simp)] at HX
        cases a1 : (t.num == 0)
        · rw [a1] at HB
          go_enter Tryd.func35, Tryd.ntmps35
          go_wp2_with (first | (go_at_call 31; refine (HB.out _).mono ?_; rintro e w1 ⟨rfl, hb⟩; obtain ⟨x0, x1, x2, x3⟩ := box_cells hb) | (go_at_call 32; refine (HN.out _ (ext_trans (ext_alloc (Below.refl _ _) _) hb)).mono ?_; rintro e w2 ⟨rfl, hb2⟩; obtain ⟨y0, y1, y2, y3⟩ := box_cells (ext_trans hb hb2); have hb := ext_trans hb hb2) | (go_at_call 56; refine (HE.out _ (ext_trans (ext_alloc (Below.refl _ _) _) hb) _).mono ?_; rintro e w3 ⟨rfl, hb3⟩; have hb := ext_trans hb hb3))
          go_ret
          exact ⟨ret_bool (by rw [HX.out]; simp [a1]), ext_trans (ext_alloc (Below.refl _ _) _) hb⟩
        · rw [a1] at HB
          cases a2 : nameB t.name
          · rw [a2] at HN
            go_enter Tryd.func35, Tryd.ntmps35
            go_wp2_with (first | (go_at_call 31; refine (HB.out _).mono ?_; rintro e w1 ⟨rfl, hb⟩; obtain ⟨x0, x1, x2, x3⟩ := box_cells hb) | (go_at_call 32; refine (HN.out _ (ext_trans (ext_alloc (Below.refl _ _) _) hb)).mono ?_; rintro e w2 ⟨rfl, hb2⟩; obtain ⟨y0, y1, y2, y3⟩ := box_cells (ext_trans hb hb2); have hb := ext_trans hb hb2) | (go_at_call 56; refine (HE.out _ (ext_trans (ext_alloc (Below.refl _ _) _) hb) _).mono ?_; rintro e w3 ⟨rfl, hb3⟩; have hb := ext_trans hb hb3))
            go_ret
            exact ⟨ret_bool (by rw [HX.out]; simp [a1, a2]), ext_trans (ext_alloc (Below.refl _ _) _) hb⟩
          · rw [a2] at HN
            go_enter Tryd.func35, Tryd.ntmps35
            go_wp2_with (first | (go_at_call 31; refine (HB.out _).mono ?_; rintro e w1 ⟨rfl, hb⟩; obtain ⟨x0, x1, x2, x3⟩ := box_cells hb) | (go_at_call 32; refine (HN.out _ (ext_trans (ext_alloc (Below.refl _ _) _) hb)).mono ?_; rintro e w2 ⟨rfl, hb2⟩; obtain ⟨y0, y1, y2, y3⟩ := box_cells (ext_trans hb hb2); have hb := ext_trans hb hb2) | (go_at_call 56; refine (HE.out _ (ext_trans (ext_alloc (Below.refl _ _) _) hb) _).mono ?_; rintro e w3 ⟨rfl, hb3⟩; have hb := ext_trans hb hb3))
            go_ret
            exact ⟨ret_bool (by rw [HX.out, ← len_zero_beq]; simp [a1, a2]), ext_trans (ext_alloc (Below.refl _ _) _) hb⟩
    · rw [k2, if_pos (by simp)] at HX
      cases a1 : (t.num == 0)
      · rw [a1] at HB
        go_enter Tryd.func35, Tryd.ntmps35
        go_wp2_with (first | (go_at_call 31; refine (HB.out _).mono ?_; rintro e w1 ⟨rfl, hb⟩; obtain ⟨x0, x1, x2, x3⟩ := box_cells hb) | (go_at_call 32; refine (HN.out _ (ext_trans (ext_alloc (Below.refl _ _) _) hb)).mono ?_; rintro e w2 ⟨rfl, hb2⟩; obtain ⟨y0, y1, y2, y3⟩ := box_cells (ext_trans hb hb2); have hb := ext_trans hb hb2) | (go_at_call 56; refine (HE.out _ (ext_trans (ext_alloc (Below.refl _ _) _) hb) _).mono ?_; rintro e w3 ⟨rfl, hb3⟩; have hb := ext_trans hb hb3))
        go_ret
        exact ⟨ret_bool (by rw [HX.out]; simp [a1]), ext_trans (ext_alloc (Below.refl _ _) _) hb⟩
      · rw [a1] at HB
        cases a2 : nameB t.name
        · rw [a2] at HN
          go_enter Tryd.func35, Tryd.ntmps35
          go_wp2_with (first | (go_at_call 31; refine (HB.out _).mono ?_; rintro e w1 ⟨rfl, hb⟩; obtain ⟨x0, x1, x2, x3⟩ := box_cells hb) | (go_at_call 32; refine (HN.out _ (ext_trans (ext_alloc (Below.refl _ _) _) hb)).mono ?_; rintro e w2 ⟨rfl, hb2⟩; obtain ⟨y0, y1, y2, y3⟩ := box_cells (ext_trans hb hb2); have hb := ext_trans hb hb2) | (go_at_call 56; refine (HE.out _ (ext_trans (ext_alloc (Below.refl _ _) _) hb) _).mono ?_; rintro e w3 ⟨rfl, hb3⟩; have hb := ext_trans hb hb3))
          go_ret
          exact ⟨ret_bool (by rw [HX.out]; simp [a1, a2]), ext_trans (ext_alloc (Below.refl _ _) _) hb⟩
        · rw [a2] at HN
          go_enter Tryd.func35, Tryd.ntmps35
          go_wp2_with (first | (go_at_call 31; refine (HB.out _).mono ?_; rintro e w1 ⟨rfl, hb⟩; obtain ⟨x0, x1, x2, x3⟩ := box_cells hb) | (go_at_call 32; refine (HN.out _ (ext_trans (ext_alloc (Below.refl _ _) _) hb)).mono ?_; rintro e w2 ⟨rfl, hb2⟩; obtain ⟨y0, y1, y2, y3⟩ := box_cells (ext_trans hb hb2); have hb := ext_trans hb hb2) | (go_at_call 56; refine (HE.out _ (ext_trans (ext_alloc (Below.refl _ _) _) hb) _).mono ?_; rintro e w3 ⟨rfl, hb3⟩; have hb := ext_trans hb hb3))
          go_ret
          exact ⟨ret_bool (by rw [HX.out, ← len_zero_beq]; simp [a1, a2]), ext_trans (ext_alloc (Below.refl _ _) _) hb⟩
  · rw [k1, if_pos rfl] at HX
    cases a1 : decide (0 ≤ t.num)
    · rw [a1, Bool.false_and] at HX
      go_enter Tryd.func35, Tryd.ntmps35
      go_wp2_with fail
      go_ret
      exact ⟨ret_bool HX.out.symm, ext_alloc (Below.refl _ _) _⟩
    · cases a2 : t.name.toList.isEmpty
      · go_enter Tryd.func35, Tryd.ntmps35
        go_wp2_with fail
        go_ret
        exact ⟨ret_bool (by rw [HX.out, emptyB, a1, a2]; rfl), ext_alloc (Below.refl _ _) _⟩
      · go_enter Tryd.func35, Tryd.ntmps35
        go_wp2_with fail
        go_ret
        exact ⟨ret_bool (by rw [HX.out, emptyB, a1, a2, ← len_zero_beq]; rfl), ext_alloc (Below.refl _ _) _⟩
end Go.Proofs.YtgjanglonccclaaDoor
