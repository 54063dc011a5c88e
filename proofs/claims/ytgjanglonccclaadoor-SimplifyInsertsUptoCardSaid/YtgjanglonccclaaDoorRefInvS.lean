/- The inverse by the kind of statement. No program in sight. -/
import Derived.Test.YtgjanglonccclaaDoorInvP3
import Derived.Test.YtgjanglonccclaaDoorRefK
namespace Go.Proofs.YtgjanglonccclaaDoor
open Go.RowKit
set_option linter.unusedVariables false
set_option linter.unusedSimpArgs false

theorem plain_kids {t : Node} (h : t.isStmt = true) (hk : t.kind ≠ 52 ∧ t.kind ≠ 53 ∧ t.kind ≠ 54 ∧ t.kind ≠ 55) : ∀ k ∈ t.kids, (k.kind == 57) = false := by
  intro k hkk
  rw [Node.isStmt_eq, Bool.and_eq_true] at h
  have h := h.2
  have go : ∀ ps : List (Node → Bool), shapeB t.kids ps = true → (∀ p ∈ ps, p = Node.isPlace ∨ p = Node.isExpr) → (k.kind == 57) = false := by
    intro ps hs hps
    obtain ⟨p, hp, hpk⟩ := shapeB_mem hs k hkk
    rcases hps p hp with rfl | rfl
    · exact isPlace_kind hpk
    · exact isExpr_kind hpk
  split at h
  · rw [Bool.and_eq_true] at h; exact go _ h.2 (by simp)
  · split at h
    · rw [Bool.and_eq_true] at h; exact go _ h.2 (by simp)
    · split at h
      · rw [Bool.and_eq_true] at h; exact go _ h.2 (by simp)
      · split at h
        · rw [Bool.and_eq_true] at h; exact go _ h.2 (by simp)
        · split at h
          · simp only [Bool.and_eq_true, List.all_eq_true] at h
            exact isVar_kind (h.2.2 k hkk)
          · simp [hk] at h
theorem map_self {l : List Node} (h : ∀ k ∈ l, (k.kind == 57) = false) : l.map invB = l := by
  induction l with
  | nil => rfl
  | cons a l ih =>
    rw [List.map_cons, ih (fun k hk => h k (by simp [hk]))]
    have := h a (by simp)
    simp [invB, this]
theorem inv_plain {t : Node} (h : t.isStmt = true) (hk : t.kind ≠ 52 ∧ t.kind ≠ 53 ∧ t.kind ≠ 54 ∧ t.kind ≠ 55) : t.inv = ⟨invKind t.kind, t.num, t.name, t.kids⟩ := by
  rw [Node.inv_eq, isStmt_kind h, invBlocks_map, map_self (plain_kids h hk)]
  simp [hk]
theorem inv_four {t : Node} (h : t.isStmt = true) (hk : t.kind = 52 ∨ t.kind = 53) : ∃ a b c d, t.kids = [a, b, c, d] ∧ b.isBlock = true ∧ c.isBlock = true ∧ t.inv = ⟨t.kind, t.num, t.name, [d, b.inv, c.inv, a]⟩ := by
  have h4 := isStmt_four h hk
  have hs := h
  rw [Node.isStmt_eq, Bool.and_eq_true] at hs
  have hs := hs.2
  obtain ⟨a, b, c, d, e⟩ : ∃ a b c d, t.kids = [a, b, c, d] := by
    match hl : t.kids with
    | [a, b, c, d] => exact ⟨a, b, c, d, rfl⟩
    | [] | [_] | [_, _] | [_, _, _] | _ :: _ :: _ :: _ :: _ :: _ => rw [hl] at h4; simp at h4
  have hx : a.isExpr = true ∧ b.isBlock = true ∧ c.isBlock = true ∧ d.isExpr = true := by
    rcases hk with hk | hk <;> (simp [hk, e, shapeB] at hs; exact ⟨hs.2.1, hs.2.2.1, hs.2.2.2.1, hs.2.2.2.2⟩)
  refine ⟨a, b, c, d, e, hx.2.1, hx.2.2.1, ?_⟩
  have ea : invB a = a := by simp [invB, isExpr_kind hx.1]
  have ed : invB d = d := by simp [invB, isExpr_kind hx.2.2.2]
  have eb : invB b = b.inv := by simp [invB, isBlock_kind hx.2.1]
  have ec : invB c = c.inv := by simp [invB, isBlock_kind hx.2.2.1]
  rw [Node.inv_eq, isStmt_kind h, invBlocks_map, e]
  have hk2 : invKind t.kind = t.kind := invKind_fixed _ (by omega)
  rw [hk2]
  simp only [List.map_cons, List.map_nil, ea, eb, ec, ed]
  rcases hk with hk | hk <;> simp [hk, swapEnds]
theorem inv_three {t : Node} (h : t.isStmt = true) (hk : t.kind = 54) : ∃ a b c, t.kids = [a, b, c] ∧ b.isBlock = true ∧ t.inv = ⟨t.kind, t.num, t.name, [c, b.inv, a]⟩ := by
  have h4 := isStmt_three h hk
  have hs := h
  rw [Node.isStmt_eq, Bool.and_eq_true] at hs
  have hs := hs.2
  obtain ⟨a, b, c, e⟩ : ∃ a b c, t.kids = [a, b, c] := by
    match hl : t.kids with
    | [a, b, c] => exact ⟨a, b, c, rfl⟩
    | [] | [_] | [_, _] | _ :: _ :: _ :: _ :: _ => rw [hl] at h4; simp at h4
  have hx : a.isExpr = true ∧ b.isBlock = true ∧ c.isExpr = true := by
    simp [hk, e, shapeB] at hs; exact ⟨hs.2.1, hs.2.2.1, hs.2.2.2⟩
  refine ⟨a, b, c, e, hx.2.1, ?_⟩
  have ea : invB a = a := by simp [invB, isExpr_kind hx.1]
  have ec : invB c = c := by simp [invB, isExpr_kind hx.2.2]
  have eb : invB b = b.inv := by simp [invB, isBlock_kind hx.2.1]
  rw [Node.inv_eq, isStmt_kind h, invBlocks_map, e]
  have hk2 : invKind t.kind = t.kind := invKind_fixed _ (by omega)
  rw [hk2]
  simp only [List.map_cons, List.map_nil, ea, eb, ec]
  simp [hk, swapEnds]
theorem inv_one {t : Node} (h : t.isStmt = true) (hk : t.kind = 55) : ∃ a, t.kids = [a] ∧ a.isBlock = true ∧ t.inv = ⟨t.kind, t.num, t.name, [a.inv]⟩ := by
  have hs := h
  rw [Node.isStmt_eq, Bool.and_eq_true] at hs
  have hs := hs.2
  have hsh : shapeB t.kids [Node.isBlock] = true := by simp [hk] at hs; exact hs.2
  have h4 := shapeB_length hsh
  obtain ⟨a, e⟩ : ∃ a, t.kids = [a] := by
    match hl : t.kids with
    | [a] => exact ⟨a, rfl⟩
    | [] | _ :: _ :: _ => rw [hl] at h4; simp at h4
  have hx : a.isBlock = true := by
    rw [e] at hsh; simpa [shapeB] using hsh
  refine ⟨a, e, hx, ?_⟩
  have ea : invB a = a.inv := by simp [invB, isBlock_kind hx]
  rw [Node.inv_eq, isStmt_kind h, invBlocks_map, e]
  have hk2 : invKind t.kind = t.kind := by rw [hk]; decide
  rw [hk2]
  simp only [List.map_cons, List.map_nil, ea]
  simp [hk]
theorem inv_block {t : Node} (h : t.isBlock = true) : t.inv = ⟨t.kind, t.num, t.name, (t.kids.map Node.inv).reverse⟩ := by
  have h57 := isBlock_kind h
  have e : t.kind = 57 := by simpa using h57
  rw [Node.inv_eq, h57, invAll_map]
  have hk2 : invKind t.kind = t.kind := by rw [e]; decide
  rw [hk2]; rfl
end Go.Proofs.YtgjanglonccclaaDoor
