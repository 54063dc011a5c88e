/- Which children of a statement are blocks. No program in sight. -/
import Derived.Test.YtgjanglonccclaaDoorInvP2
namespace Go.Proofs.YtgjanglonccclaaDoor
open Go.RowKit
set_option linter.unusedVariables false
set_option linter.unusedSimpArgs false

theorem isExpr_kind {t : Node} (h : t.isExpr = true) : (t.kind == 57) = false := by
  cases hk : (t.kind == 57)
  · rfl
  · exfalso
    have e : t.kind = 57 := by simpa using hk
    rw [Node.isExpr_eq] at h
    simp [e] at h
theorem isPlace_kind {t : Node} (h : t.isPlace = true) : (t.kind == 57) = false := by
  simp only [Node.isPlace, Bool.and_eq_true] at h
  exact isExpr_kind h.2
theorem isVar_kind {t : Node} (h : t.isVar = true) : (t.kind == 57) = false := by
  simp only [Node.isVar, Bool.and_eq_true] at h
  exact isExpr_kind h.2
theorem isStmt_kind {t : Node} (h : t.isStmt = true) : (t.kind == 57) = false := by
  cases hk : (t.kind == 57)
  · rfl
  · exfalso
    have e : t.kind = 57 := by simpa using hk
    rw [Node.isStmt_eq] at h
    simp [e] at h
theorem isBlock_kind {t : Node} (h : t.isBlock = true) : (t.kind == 57) = true := by
  rw [Node.isBlock_eq] at h
  simp only [Bool.and_eq_true] at h
  exact h.1
theorem shapeB_mem {ks : List Node} {ps : List (Node → Bool)} (h : shapeB ks ps = true) : ∀ k ∈ ks, ∃ p ∈ ps, p k = true := by
  intro k hk
  simp only [shapeB, Bool.and_eq_true, beq_iff_eq, List.all_eq_true] at h
  obtain ⟨j, hj, rfl⟩ := List.getElem_of_mem hk
  refine ⟨ps[j]'(by omega), List.getElem_mem _, h.2 (ks[j], ps[j]'(by omega)) ?_⟩
  rw [List.mem_iff_getElem]
  exact ⟨j, by simp; omega, by simp⟩
theorem shapeB_length {ks : List Node} {ps : List (Node → Bool)} (h : shapeB ks ps = true) : ks.length = ps.length := by
  simp only [shapeB, Bool.and_eq_true, beq_iff_eq] at h
  exact h.1

/-- What a statement's kind says of its children. -/
theorem isStmt_kids {t : Node} (h : t.isStmt = true) : ∀ k ∈ t.kids, (k.kind == 57) = true → k.isBlock = true := by
  intro k hk h57
  rw [Node.isStmt_eq, Bool.and_eq_true] at h
  have h := h.2
  have no : ∀ p : Node → Bool, (p = Node.isPlace ∨ p = Node.isExpr) → p k = true → False := by
    rintro p (rfl | rfl) hp
    · rw [isPlace_kind hp] at h57; cases h57
    · rw [isExpr_kind hp] at h57; cases h57
  have go : ∀ ps : List (Node → Bool), shapeB t.kids ps = true → (∀ p ∈ ps, p = Node.isPlace ∨ p = Node.isExpr ∨ p = Node.isBlock) → k.isBlock = true := by
    intro ps hs hps
    obtain ⟨p, hp, hpk⟩ := shapeB_mem hs k hk
    rcases hps p hp with rfl | rfl | rfl
    · exact (no _ (.inl rfl) hpk).elim
    · exact (no _ (.inr rfl) hpk).elim
    · exact hpk
  split at h
  · rw [Bool.and_eq_true] at h; exact go _ h.2 (by simp)
  · split at h
    · rw [Bool.and_eq_true] at h; exact go _ h.2 (by simp)
    · split at h
      · rw [Bool.and_eq_true] at h; exact go _ h.2 (by simp)
      · split at h
        · rw [Bool.and_eq_true] at h; exact go _ h.2 (by simp)
        · split at h
          · simp only [Bool.and_eq_true, List.all_eq_true] at h
            have := isVar_kind (h.2.2 k hk)
            rw [this] at h57; cases h57
          · split at h
            · rw [Bool.and_eq_true] at h; exact go _ h.2 (by simp)
            · split at h
              · rw [Bool.and_eq_true] at h; exact go _ h.2 (by simp)
              · split at h
                · rw [Bool.and_eq_true] at h; exact go _ h.2 (by simp)
                · cases h
theorem isStmt_four {t : Node} (h : t.isStmt = true) (hk : t.kind = 52 ∨ t.kind = 53) : t.kids.length = 4 := by
  rw [Node.isStmt_eq, Bool.and_eq_true] at h
  have h := h.2
  rcases hk with hk | hk <;> (simp [hk] at h; exact shapeB_length h.2)
theorem isStmt_three {t : Node} (h : t.isStmt = true) (hk : t.kind = 54) : t.kids.length = 3 := by
  rw [Node.isStmt_eq, Bool.and_eq_true] at h
  have h := h.2
  simp [hk] at h; exact shapeB_length h.2
theorem isBlock_kids {t : Node} (h : t.isBlock = true) : ∀ k ∈ t.kids, k.isStmt = true := by
  rw [Node.isBlock_eq] at h
  simp only [Bool.and_eq_true, List.all_eq_true] at h
  exact h.2.2.2

theorem invKind_range {k : Int} (h0 : 0 ≤ k) (h1 : k ≤ 255) : 0 ≤ invKind k ∧ invKind k ≤ 255 := by
  rw [invKind_eq]
  repeat' split
  all_goals omega
theorem invKind_fixed (k : Int) (h : k = 52 ∨ k = 53 ∨ k = 54 ∨ k = 57) : invKind k = k := by
  rcases h with rfl | rfl | rfl | rfl <;> decide
theorem invKind_back (k m : Int) (h : m = 52 ∨ m = 53 ∨ m = 54 ∨ m = 57) (e : invKind k = m) : k = m := by
  have := invKind_invKind k
  rw [e, invKind_fixed m h] at this
  exact this.symm
end Go.Proofs.YtgjanglonccclaaDoor
