/- Contracts of ast.IsStmt and ast.IsBlock. -/
import Derived.Test.YtgjanglonccclaaDoorAst3
namespace Go.Proofs.YtgjanglonccclaaDoor
open Go.RowKit
set_option linter.unusedVariables false
set_option linter.unusedSimpArgs false

def StmtRuns (t : Node) : Prop := ∀ (A : Option Addr) (c : Nat) (w : World) (ok : Nat → Prop), Good w → t.In w ok A c →
  Calls Tryd.prog 12 #[.agg #[.int .u8 t.kind, .int .i64 t.num, .string t.name, .slice A t.kids.length c]] w fun e w' => e = .returned (.bool t.isStmt) ∧ Below w.heap.size w w'
def BlockRuns (t : Node) : Prop := ∀ (A : Option Addr) (c : Nat) (w : World) (ok : Nat → Prop), Good w → t.In w ok A c →
  Calls Tryd.prog 15 #[.agg #[.int .u8 t.kind, .int .i64 t.num, .string t.name, .slice A t.kids.length c]] w fun e w' => e = .returned (.bool t.isBlock) ∧ Below w.heap.size w w'

theorem goes_stmt1 : Goes 37 := goes_of Tryd.func37 (by kernel_rfl) rfl
theorem goes_block1 : Goes 40 := goes_of Tryd.func40 (by kernel_rfl) rfl
theorem stmt1_any (t : Node) (A : Option Addr) (c : Nat) (w : World) (ok : Nat → Prop) (hw : Good w) (h : t.In w ok A c) :
    Calls Tryd.prog 37 #[.agg #[.int .u8 t.kind, .int .i64 t.num, .string t.name, .slice A t.kids.length c]] w fun e w' => e = .returned (.bool !t.isVar) ∧ Below w.heap.size w w' := by
  have HE := Hd.mk (fun W hb => isExpr_any t A c W ok (hw.below (w' := W) hb) (h.below hb))
  have HX := Hd.mk (show t.isVar = (t.kind == 2 && t.isExpr) from rfl)
  clear hw h
  cases k2 : (t.kind == 2)
  · have k3 : (t.kind != 2) = true := by simp [bne, k2]
    go_enter Tryd.func37, Tryd.ntmps37
    go_wp2_with fail
    go_ret
    exact ⟨ret_bool (by rw [HX.out, k2]; rfl), ext_alloc (Below.refl _ _) _⟩
  · have k3 : (t.kind != 2) = false := by simp [bne, k2]
    go_enter Tryd.func37, Tryd.ntmps37
    go_wp2_with (go_at_call 35; refine (HE.out _ (ext_alloc (Below.refl _ _) _)).mono ?_; rintro e w1 ⟨rfl, hb⟩)
    go_ret
    exact ⟨ret_bool (by rw [HX.out, k2]; simp), ext_trans (ext_alloc (Below.refl _ _) _) hb⟩
theorem block1_any (t : Node) (ht : StmtRuns t) (A : Option Addr) (c : Nat) (w : World) (ok : Nat → Prop) (hw : Good w) (h : t.In w ok A c) :
    Calls Tryd.prog 40 #[.agg #[.int .u8 t.kind, .int .i64 t.num, .string t.name, .slice A t.kids.length c]] w fun e w' => e = .returned (.bool !t.isStmt) ∧ Below w.heap.size w w' := by
  have HT := Hd.mk (fun W hb => ht A c W ok (hw.below hb) (h.below hb))
  clear hw h ht
  go_enter Tryd.func40, Tryd.ntmps40
  go_wp2_with (go_at_call 12; refine (HT.out _ (ext_alloc (Below.refl _ _) _)).mono ?_; rintro e w1 ⟨rfl, hb⟩)
  go_ret
  exact ⟨rfl, ext_trans (ext_alloc (Below.refl _ _) _) hb⟩

theorem isBlock_step (t : Node) (ih : ∀ k ∈ t.kids, StmtRuns k) : BlockRuns t := by
  intro A c w ok hw h
  have HB := Hd.mk (bare_any t A c)
  have HC := Hd.mk (fun W hb => contains_any t A c W ok (h.below (w' := W) hb) _ goes_block1 (fun k => !k.isStmt) (fun k hk W1 A1 c1 args hb1 hin ha => by subst ha; exact block1_any k (ih k hk) A1 c1 W1 ok (hw.below (ext_trans hb hb1)) hin))
  have hl := h.lenZ
  have HX := Hd.mk t.isBlock_eq
  have HA := Hd.mk (show (!t.kids.any fun k => !k.isStmt) = t.kids.all Node.isStmt by rw [List.not_any_eq_all_not]; simp)
  clear hw h ih
  cases a0 : (t.kind == 57)
  · go_enter Tryd.func15, Tryd.ntmps15
    go_wp2_with fail
    go_ret
    exact ⟨ret_bool (by rw [HX.out, a0]; rfl), ext_alloc (Below.refl _ _) _⟩
  · cases a1 : (t.num == 0)
    · rw [a1] at HB
      go_enter Tryd.func15, Tryd.ntmps15
      go_wp2_with (go_at_call 31; refine (HB.out _).mono ?_; rintro e w1 ⟨rfl, hb⟩; obtain ⟨x0, x1, x2, x3⟩ := box_cells hb)
      go_ret
      exact ⟨ret_bool (by rw [HX.out]; simp [a0, a1]), ext_trans (ext_alloc (Below.refl _ _) _) hb⟩
    · rw [a1] at HB
      cases a2 : t.name.toList.isEmpty
      · go_enter Tryd.func15, Tryd.ntmps15
        go_wp2_with (go_at_call 31; refine (HB.out _).mono ?_; rintro e w1 ⟨rfl, hb⟩; obtain ⟨x0, x1, x2, x3⟩ := box_cells hb)
        go_ret
        exact ⟨ret_bool (by rw [HX.out]; simp [emptyB, a0, a1, a2]), ext_trans (ext_alloc (Below.refl _ _) _) hb⟩
      · go_enter Tryd.func15, Tryd.ntmps15
        go_wp2_with (first | (go_at_call 31; refine (HB.out _).mono ?_; rintro e w1 ⟨rfl, hb⟩; obtain ⟨x0, x1, x2, x3⟩ := box_cells hb) | (go_at_call 36; refine (HC.out _ (ext_trans (ext_alloc (Below.refl _ _) _) hb)).mono ?_; rintro e w2 ⟨rfl, hb2⟩; have hb := ext_trans hb hb2))
        go_ret
        exact ⟨ret_bool (by rw [HX.out, ← HA.out]; simp [emptyB, a0, a1, a2]), ext_trans (ext_alloc (Below.refl _ _) _) hb⟩

def KindOf (k : Int) : Prop := (k = 40 ∨ k = 41 ∨ k = 42 ∨ k = 56) ∨ k = 43 ∨ (k = 46 ∨ k = 47 ∨ k = 48 ∨ k = 49) ∨ (k = 52 ∨ k = 53) ∨ (k = 44 ∨ k = 45) ∨ (k = 50 ∨ k = 51) ∨ k = 54 ∨ k = 55
theorem fcells (w : World) (vs : List Value) (T : TypeId) : ∀ j (hj : j < vs.length), (w.alloc (.cells vs.toArray T)).cell? ⟨w.heap.size, j, none⟩ = some vs[j] := by
  intro j hj
  rw [cell_blk (Go.MapKept.heap_alloc w _).1]
  simp [hj]

set_option maxHeartbeats 16000000 in
theorem isStmt_step (t : Node) (ih : ∀ k ∈ t.kids, BlockRuns k) : StmtRuns t := by
  obtain ⟨k, n, s, ks⟩ := t
  intro A c w ok hw h
  have HB := Hd.mk (bare_any ⟨k, n, s, ks⟩ A c)
  have HN := Hd.mk (fun W hb => name_any s h.fits.name W (hw.below (w' := W) hb))
  have hl := h.lenZ
  have HX := Hd.mk (Node.isStmt_eq ⟨k, n, s, ks⟩)
  have HC := Hd.mk (fun W hb => contains_any ⟨k, n, s, ks⟩ A c W ok (h.below (w' := W) hb) _ goes_stmt1 (fun k => !k.isVar) (fun k hk W1 A1 c1 args hb1 hin ha => by subst ha; exact stmt1_any k A1 c1 W1 ok (hw.below (ext_trans hb hb1)) hin))
  have HA := Hd.mk (show (!ks.any fun k => !k.isVar) = ks.all Node.isVar by rw [List.not_any_eq_all_not]; simp)
  have TP : ∀ W, Below w.heap.size w W → ∀ k ∈ ks, Tests 34 #[] Node.isPlace W ok k := fun W hb k hk W1 A1 c1 args hb1 hin ha => by subst ha; exact isPlace_any k A1 c1 W1 ok (hw.below (ext_trans hb hb1)) hin
  have TE : ∀ W, Below w.heap.size w W → ∀ k ∈ ks, Tests 35 #[] Node.isExpr W ok k := fun W hb k hk W1 A1 c1 args hb1 hin ha => by subst ha; exact isExpr_any k A1 c1 W1 ok (hw.below (ext_trans hb hb1)) hin
  have TB : ∀ W, Below w.heap.size w W → ∀ k ∈ ks, Tests 15 #[] Node.isBlock W ok k := fun W hb k hk W1 A1 c1 args hb1 hin ha => by subst ha; exact ih k hk A1 c1 W1 ok (hw.below (ext_trans hb hb1)) hin
  have SH : ∀ (W : World), Below w.heap.size w W → ∀ (fs : List FuncId) (ps : List (Node → Bool)) (m : Nat), fs.length = m → ps.length = m → m ≤ 100 → (∀ f ∈ fs, Goes f) →
      (∀ j (h1 : j < fs.length) (h2 : j < ps.length), ∀ (W1 : World), Below w.heap.size w W1 → ∀ k ∈ ks, Tests fs[j] #[] ps[j] W1 ok k) →
      Calls Tryd.prog 33 #[.agg #[.int .u8 k, .int .i64 n, .string s, .slice A ks.length c], .slice (some ⟨W.heap.size, 0, none⟩) m m] (W.alloc (.cells (fs.map fun f => Value.func (.func f) #[] #[]).toArray 27)) fun e w' => e = .returned (.bool (shapeB ks ps)) ∧ Below W.heap.size W w' := by
    intro W hb fs ps m h1 h2 h3 h4 h5
    refine (shape_any ⟨k, n, s, ks⟩ A c _ ok (h.below (ext_alloc hb _)) fs ps m h1 h2 h3 W.heap.size ?_ (by simp) h4 (fun j g1 g2 => h5 j g1 g2 _ (ext_alloc hb _))).mono ?_
    · intro j hj
      have := fcells W (fs.map fun f => Value.func (.func f) #[] #[]) 27 j (by simpa using hj)
      rw [this]; simp
    · rintro e w' ⟨rfl, hb1⟩
      exact ⟨rfl, ext_trans (ext_alloc (Below.refl _ _) _) hb1⟩
  have GP := goes_IsPlace
  have GE := goes_IsExpr
  have GB := goes_IsBlock
  have S1 := Hd.mk (fun W hb => SH W hb [34, 35] [Node.isPlace, Node.isExpr] 2 rfl rfl (by omega) (by simp [GP, GE]) (fun j h1 h2 => by
    have : j = 0 ∨ j = 1 := by simp at h1; omega
    rcases this with rfl | rfl
    · exact TP
    · exact TE))
  have S2 := Hd.mk (fun W hb => SH W hb [34, 34] [Node.isPlace, Node.isPlace] 2 rfl rfl (by omega) (by simp [GP]) (fun j h1 h2 => by
    have : j = 0 ∨ j = 1 := by simp at h1; omega
    rcases this with rfl | rfl
    · exact TP
    · exact TP))
  have S3 := Hd.mk (fun W hb => SH W hb [34] [Node.isPlace] 1 rfl rfl (by omega) (by simp [GP]) (fun j h1 h2 => by
    obtain rfl : j = 0 := by simp at h1; omega
    exact TP))
  have S4 := Hd.mk (fun W hb => SH W hb [35, 15, 15, 35] [Node.isExpr, Node.isBlock, Node.isBlock, Node.isExpr] 4 rfl rfl (by omega) (by simp [GB, GE]) (fun j h1 h2 => by
    have : j = 0 ∨ j = 1 ∨ j = 2 ∨ j = 3 := by simp at h1; omega
    rcases this with rfl | rfl | rfl | rfl
    · exact TE
    · exact TB
    · exact TB
    · exact TE))
  have S5 := Hd.mk (fun W hb => SH W hb [35, 15, 35] [Node.isExpr, Node.isBlock, Node.isExpr] 3 rfl rfl (by omega) (by simp [GB, GE]) (fun j h1 h2 => by
    have : j = 0 ∨ j = 1 ∨ j = 2 := by simp at h1; omega
    rcases this with rfl | rfl | rfl
    · exact TE
    · exact TB
    · exact TE))
  have S6 := Hd.mk (fun W hb => SH W hb [15] [Node.isBlock] 1 rfl rfl (by omega) (by simp [GB]) (fun j h1 h2 => by
    obtain rfl : j = 0 := by simp at h1; omega
    exact TB))
  clear hw h ih TP TE TB SH GP GE GB
  dsimp only at HB HX HC hl ⊢
  cases a1 : (n == 0)
  · rw [a1] at HB
    go_enter Tryd.func12, Tryd.ntmps12
    go_wp2_with (go_at_call 31; refine (HB.out _).mono ?_; rintro e w1 ⟨rfl, hb⟩; obtain ⟨x0, x1, x2, x3⟩ := box_cells hb)
    go_ret
    exact ⟨ret_bool (by rw [HX.out]; simp [a1]), ext_trans (ext_alloc (Below.refl _ _) _) hb⟩
  · rw [a1] at HB
    by_cases hk : KindOf k
    · rcases hk with hk | hk | hk | hk | hk | hk | hk | hk
      · rcases hk with rfl | rfl | rfl | rfl
        all_goals
          cases a2 : s.toList.isEmpty
          all_goals
            go_enter Tryd.func12, Tryd.ntmps12
            go_wp2_with (first | (go_at_call 31; refine (HB.out _).mono ?_; rintro e w1 ⟨rfl, hb⟩; obtain ⟨x0, x1, x2, x3⟩ := box_cells hb) | (go_at_call 32; refine (HN.out _ (ext_trans (ext_alloc (Below.refl _ _) _) hb)).mono ?_; rintro e w2 ⟨rfl, hb2⟩; obtain ⟨y0, y1, y2, y3⟩ := box_cells (ext_trans hb hb2); have hb := ext_trans hb hb2) | (go_at_call 33; refine (S1.out _ (ext_trans (ext_alloc (Below.refl _ _) _) hb)).mono ?_; rintro e w3 ⟨rfl, hb3⟩; have hb := ext_trans hb hb3))
            go_ret
            exact ⟨ret_bool (by rw [HX.out]; simp [emptyB, a1, a2]), ext_trans (ext_alloc (Below.refl _ _) _) hb⟩
      · subst hk
        all_goals
          cases a2 : s.toList.isEmpty
          all_goals
            go_enter Tryd.func12, Tryd.ntmps12
            go_wp2_with (first | (go_at_call 31; refine (HB.out _).mono ?_; rintro e w1 ⟨rfl, hb⟩; obtain ⟨x0, x1, x2, x3⟩ := box_cells hb) | (go_at_call 32; refine (HN.out _ (ext_trans (ext_alloc (Below.refl _ _) _) hb)).mono ?_; rintro e w2 ⟨rfl, hb2⟩; obtain ⟨y0, y1, y2, y3⟩ := box_cells (ext_trans hb hb2); have hb := ext_trans hb hb2) | (go_at_call 33; refine (S2.out _ (ext_trans (ext_alloc (Below.refl _ _) _) hb)).mono ?_; rintro e w3 ⟨rfl, hb3⟩; have hb := ext_trans hb hb3))
            go_ret
            exact ⟨ret_bool (by rw [HX.out]; simp [emptyB, a1, a2]), ext_trans (ext_alloc (Below.refl _ _) _) hb⟩
      · rcases hk with rfl | rfl | rfl | rfl
        all_goals
          cases a2 : s.toList.isEmpty
          all_goals
            go_enter Tryd.func12, Tryd.ntmps12
            go_wp2_with (first | (go_at_call 31; refine (HB.out _).mono ?_; rintro e w1 ⟨rfl, hb⟩; obtain ⟨x0, x1, x2, x3⟩ := box_cells hb) | (go_at_call 32; refine (HN.out _ (ext_trans (ext_alloc (Below.refl _ _) _) hb)).mono ?_; rintro e w2 ⟨rfl, hb2⟩; obtain ⟨y0, y1, y2, y3⟩ := box_cells (ext_trans hb hb2); have hb := ext_trans hb hb2) | (go_at_call 33; refine (S3.out _ (ext_trans (ext_alloc (Below.refl _ _) _) hb)).mono ?_; rintro e w3 ⟨rfl, hb3⟩; have hb := ext_trans hb hb3))
            go_ret
            exact ⟨ret_bool (by rw [HX.out]; simp [emptyB, a1, a2]), ext_trans (ext_alloc (Below.refl _ _) _) hb⟩
      · rcases hk with rfl | rfl
        all_goals
          cases a2 : s.toList.isEmpty
          all_goals
            go_enter Tryd.func12, Tryd.ntmps12
            go_wp2_with (first | (go_at_call 31; refine (HB.out _).mono ?_; rintro e w1 ⟨rfl, hb⟩; obtain ⟨x0, x1, x2, x3⟩ := box_cells hb) | (go_at_call 32; refine (HN.out _ (ext_trans (ext_alloc (Below.refl _ _) _) hb)).mono ?_; rintro e w2 ⟨rfl, hb2⟩; obtain ⟨y0, y1, y2, y3⟩ := box_cells (ext_trans hb hb2); have hb := ext_trans hb hb2) | (go_at_call 33; refine (S4.out _ (ext_trans (ext_alloc (Below.refl _ _) _) hb)).mono ?_; rintro e w3 ⟨rfl, hb3⟩; have hb := ext_trans hb hb3))
            go_ret
            exact ⟨ret_bool (by rw [HX.out]; simp [emptyB, a1, a2]), ext_trans (ext_alloc (Below.refl _ _) _) hb⟩
      · rcases hk with rfl | rfl
        all_goals
          cases a2 : nameB s
          all_goals
            rw [a2] at HN
            go_enter Tryd.func12, Tryd.ntmps12
            go_wp2_with (first | (go_at_call 31; refine (HB.out _).mono ?_; rintro e w1 ⟨rfl, hb⟩; obtain ⟨x0, x1, x2, x3⟩ := box_cells hb) | (go_at_call 32; refine (HN.out _ (ext_trans (ext_alloc (Below.refl _ _) _) hb)).mono ?_; rintro e w2 ⟨rfl, hb2⟩; obtain ⟨y0, y1, y2, y3⟩ := box_cells (ext_trans hb hb2); have hb := ext_trans hb hb2) | (go_at_call 33; refine (S3.out _ (ext_trans (ext_alloc (Below.refl _ _) _) hb)).mono ?_; rintro e w3 ⟨rfl, hb3⟩; have hb := ext_trans hb hb3))
            go_ret
            exact ⟨ret_bool (by rw [HX.out]; simp [a1, a2]), ext_trans (ext_alloc (Below.refl _ _) _) hb⟩
      · rcases hk with rfl | rfl
        all_goals
          cases a2 : nameB s
          · rw [a2] at HN
            go_enter Tryd.func12, Tryd.ntmps12
            go_wp2_with (first | (go_at_call 31; refine (HB.out _).mono ?_; rintro e w1 ⟨rfl, hb⟩; obtain ⟨x0, x1, x2, x3⟩ := box_cells hb) | (go_at_call 32; refine (HN.out _ (ext_trans (ext_alloc (Below.refl _ _) _) hb)).mono ?_; rintro e w2 ⟨rfl, hb2⟩; obtain ⟨y0, y1, y2, y3⟩ := box_cells (ext_trans hb hb2); have hb := ext_trans hb hb2) | (go_at_call 33; refine (S1.out _ (ext_trans (ext_alloc (Below.refl _ _) _) hb)).mono ?_; rintro e w3 ⟨rfl, hb3⟩; have hb := ext_trans hb hb3))
            go_ret
            exact ⟨ret_bool (by rw [HX.out]; simp [a1, a2]), ext_trans (ext_alloc (Below.refl _ _) _) hb⟩
          · rw [a2] at HN
            cases a3 : decide ((ks.length : Int) ≤ 8)
            all_goals
              go_enter Tryd.func12, Tryd.ntmps12
              go_wp2_with (first | (go_at_call 36; refine (HC.out _ (ext_trans (ext_alloc (Below.refl _ _) _) hb)).mono ?_; rintro e w4 ⟨rfl, hb4⟩; have hb := ext_trans hb hb4) | first | (go_at_call 31; refine (HB.out _).mono ?_; rintro e w1 ⟨rfl, hb⟩; obtain ⟨x0, x1, x2, x3⟩ := box_cells hb) | (go_at_call 32; refine (HN.out _ (ext_trans (ext_alloc (Below.refl _ _) _) hb)).mono ?_; rintro e w2 ⟨rfl, hb2⟩; obtain ⟨y0, y1, y2, y3⟩ := box_cells (ext_trans hb hb2); have hb := ext_trans hb hb2) | (go_at_call 33; refine (S1.out _ (ext_trans (ext_alloc (Below.refl _ _) _) hb)).mono ?_; rintro e w3 ⟨rfl, hb3⟩; have hb := ext_trans hb hb3))
              go_ret
              exact ⟨ret_bool (by rw [HX.out]; simp [a1, a2, a3, ← HA.out]), ext_trans (ext_alloc (Below.refl _ _) _) hb⟩
      · subst hk
        all_goals
          cases a2 : nameB s
          all_goals
            rw [a2] at HN
            go_enter Tryd.func12, Tryd.ntmps12
            go_wp2_with (first | (go_at_call 31; refine (HB.out _).mono ?_; rintro e w1 ⟨rfl, hb⟩; obtain ⟨x0, x1, x2, x3⟩ := box_cells hb) | (go_at_call 32; refine (HN.out _ (ext_trans (ext_alloc (Below.refl _ _) _) hb)).mono ?_; rintro e w2 ⟨rfl, hb2⟩; obtain ⟨y0, y1, y2, y3⟩ := box_cells (ext_trans hb hb2); have hb := ext_trans hb hb2) | (go_at_call 33; refine (S5.out _ (ext_trans (ext_alloc (Below.refl _ _) _) hb)).mono ?_; rintro e w3 ⟨rfl, hb3⟩; have hb := ext_trans hb hb3))
            go_ret
            exact ⟨ret_bool (by rw [HX.out]; simp [a1, a2]), ext_trans (ext_alloc (Below.refl _ _) _) hb⟩
      · subst hk
        all_goals
          cases a2 : nameB s
          all_goals
            rw [a2] at HN
            go_enter Tryd.func12, Tryd.ntmps12
            go_wp2_with (first | (go_at_call 31; refine (HB.out _).mono ?_; rintro e w1 ⟨rfl, hb⟩; obtain ⟨x0, x1, x2, x3⟩ := box_cells hb) | (go_at_call 32; refine (HN.out _ (ext_trans (ext_alloc (Below.refl _ _) _) hb)).mono ?_; rintro e w2 ⟨rfl, hb2⟩; obtain ⟨y0, y1, y2, y3⟩ := box_cells (ext_trans hb hb2); have hb := ext_trans hb hb2) | (go_at_call 33; refine (S6.out _ (ext_trans (ext_alloc (Below.refl _ _) _) hb)).mono ?_; rintro e w3 ⟨rfl, hb3⟩; have hb := ext_trans hb hb3))
            go_ret
            exact ⟨ret_bool (by rw [HX.out]; simp [a1, a2]), ext_trans (ext_alloc (Below.refl _ _) _) hb⟩
    · have f40 : (k == 40) = false := by rw [beq_eq_false_iff_ne]; unfold KindOf at hk; omega
      have f41 : (k == 41) = false := by rw [beq_eq_false_iff_ne]; unfold KindOf at hk; omega
      have f42 : (k == 42) = false := by rw [beq_eq_false_iff_ne]; unfold KindOf at hk; omega
      have f56 : (k == 56) = false := by rw [beq_eq_false_iff_ne]; unfold KindOf at hk; omega
      have f43 : (k == 43) = false := by rw [beq_eq_false_iff_ne]; unfold KindOf at hk; omega
      have f46 : (k == 46) = false := by rw [beq_eq_false_iff_ne]; unfold KindOf at hk; omega
      have f47 : (k == 47) = false := by rw [beq_eq_false_iff_ne]; unfold KindOf at hk; omega
      have f48 : (k == 48) = false := by rw [beq_eq_false_iff_ne]; unfold KindOf at hk; omega
      have f49 : (k == 49) = false := by rw [beq_eq_false_iff_ne]; unfold KindOf at hk; omega
      have f52 : (k == 52) = false := by rw [beq_eq_false_iff_ne]; unfold KindOf at hk; omega
      have f53 : (k == 53) = false := by rw [beq_eq_false_iff_ne]; unfold KindOf at hk; omega
      have f44 : (k == 44) = false := by rw [beq_eq_false_iff_ne]; unfold KindOf at hk; omega
      have f45 : (k == 45) = false := by rw [beq_eq_false_iff_ne]; unfold KindOf at hk; omega
      have f50 : (k == 50) = false := by rw [beq_eq_false_iff_ne]; unfold KindOf at hk; omega
      have f51 : (k == 51) = false := by rw [beq_eq_false_iff_ne]; unfold KindOf at hk; omega
      have f54 : (k == 54) = false := by rw [beq_eq_false_iff_ne]; unfold KindOf at hk; omega
      have f55 : (k == 55) = false := by rw [beq_eq_false_iff_ne]; unfold KindOf at hk; omega
      clear hk
      go_enter Tryd.func12, Tryd.ntmps12
      go_wp2_with (first | (go_at_call 31; refine (HB.out _).mono ?_; rintro e w1 ⟨rfl, hb⟩; obtain ⟨x0, x1, x2, x3⟩ := box_cells hb) | (go_at_call 32; refine (HN.out _ (ext_trans (ext_alloc (Below.refl _ _) _) hb)).mono ?_; rintro e w2 ⟨rfl, hb2⟩; obtain ⟨y0, y1, y2, y3⟩ := box_cells (ext_trans hb hb2); have hb := ext_trans hb hb2) | (go_at_call 33; refine (S1.out _ (ext_trans (ext_alloc (Below.refl _ _) _) hb)).mono ?_; rintro e w3 ⟨rfl, hb3⟩; have hb := ext_trans hb hb3))
      go_ret
      exact ⟨ret_bool (by rw [HX.out]; simp [a1, f40, f41, f42, f56, f43, f46, f47, f48, f49, f52, f53, f44, f45, f50, f51, f54, f55]), ext_trans (ext_alloc (Below.refl _ _) _) hb⟩

theorem runs_any (t : Node) : StmtRuns t ∧ BlockRuns t := by
  induction t using Node.ind with
  | h t ih => exact ⟨isStmt_step t fun k hk => (ih k hk).2, isBlock_step t fun k hk => (ih k hk).1⟩
theorem isStmt_any (t : Node) : StmtRuns t := (runs_any t).1
theorem isBlock_any (t : Node) : BlockRuns t := (runs_any t).2
end Go.Proofs.YtgjanglonccclaaDoor
