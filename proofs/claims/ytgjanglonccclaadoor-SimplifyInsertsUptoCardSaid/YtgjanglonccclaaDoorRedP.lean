/- Reduced rows of statements: the plain laws of SimplifyInverts, SimplifyEmpties, SimplifyInserts. No program in sight. -/
import Derived.Test.YtgjanglonccclaaDoorCanP
import Derived.Test.YtgjanglonccclaaDoorRefInvS
namespace Go.Proofs.YtgjanglonccclaaDoor
open Go.RowKit
set_option linter.unusedVariables false
set_option linter.unusedSimpArgs false

/-! ### inverses and simplified forms are statements -/
theorem shapeB_map {f : Node → Node} {ks : List Node} : ∀ {ps : List (Node → Bool)}, (∀ p ∈ ps, ∀ k ∈ ks, p k = true → p (f k) = true) → shapeB ks ps = true → shapeB (ks.map f) ps = true := by
  intro ps hf h
  simp only [shapeB, Bool.and_eq_true, beq_iff_eq, List.all_eq_true] at h ⊢
  refine ⟨by simpa using h.1, ?_⟩
  rintro ⟨a, p⟩ hm
  rw [List.zip_map_left, List.mem_map] at hm
  obtain ⟨⟨a0, p0⟩, hm0, e⟩ := hm
  injection e with e1 e2
  subst e1; subst e2
  exact hf p0 (List.of_mem_zip hm0).2 a0 (List.of_mem_zip hm0).1 (h.2 (a0, p0) hm0)
/-- A map of the children that keeps expressions, places and blocks keeps statements of one kind. -/
theorem stmt_map {t : Node} {f : Node → Node} (hf : ∀ k ∈ t.kids, (k.kind == 57) = false → f k = k) (hb : ∀ k ∈ t.kids, k.isBlock = true → (f k).isBlock = true) (h : t.isStmt = true) :
    (⟨t.kind, t.num, t.name, t.kids.map f⟩ : Node).isStmt = true := by
  have hE : ∀ k ∈ t.kids, k.isExpr = true → (f k).isExpr = true := fun k hk h => by rw [hf k hk (isExpr_kind h)]; exact h
  have hP : ∀ k ∈ t.kids, k.isPlace = true → (f k).isPlace = true := fun k hk h => by rw [hf k hk (isPlace_kind h)]; exact h
  have hV : ∀ k ∈ t.kids, k.isVar = true → (f k).isVar = true := fun k hk h => by rw [hf k hk (isVar_kind h)]; exact h
  have go : ∀ ps : List (Node → Bool), (∀ p ∈ ps, p = Node.isPlace ∨ p = Node.isExpr ∨ p = Node.isBlock) → shapeB t.kids ps = true → shapeB (t.kids.map f) ps = true := by
    intro ps hps
    refine shapeB_map fun p hp k hk => ?_
    rcases hps p hp with rfl | rfl | rfl
    · exact hP k hk
    · exact hE k hk
    · exact hb k hk
  rw [Node.isStmt_eq, Bool.and_eq_true] at h ⊢
  refine ⟨h.1, ?_⟩
  have h := h.2
  dsimp only
  split at h
  · rename_i c; rw [if_pos c]; rw [Bool.and_eq_true] at h ⊢; exact ⟨h.1, go _ (by simp) h.2⟩
  · rename_i c; rw [if_neg c]
    split at h
    · rename_i c; rw [if_pos c]; rw [Bool.and_eq_true] at h ⊢; exact ⟨h.1, go _ (by simp) h.2⟩
    · rename_i c; rw [if_neg c]
      split at h
      · rename_i c; rw [if_pos c]; rw [Bool.and_eq_true] at h ⊢; exact ⟨h.1, go _ (by simp) h.2⟩
      · rename_i c; rw [if_neg c]
        split at h
        · rename_i c; rw [if_pos c]; rw [Bool.and_eq_true] at h ⊢; exact ⟨h.1, go _ (by simp) h.2⟩
        · rename_i c; rw [if_neg c]
          split at h
          · rename_i c; rw [if_pos c]
            simp only [Bool.and_eq_true, List.all_eq_true, List.length_map, List.mem_map, forall_exists_index, and_imp, forall_apply_eq_imp_iff₂] at h ⊢
            exact ⟨h.1, h.2.1, fun k hk => hV k hk (h.2.2 k hk)⟩
          · rename_i c; rw [if_neg c]
            split at h
            · rename_i c; rw [if_pos c]; rw [Bool.and_eq_true] at h ⊢; exact ⟨h.1, go _ (by simp) h.2⟩
            · rename_i c; rw [if_neg c]
              split at h
              · rename_i c; rw [if_pos c]; rw [Bool.and_eq_true] at h ⊢; exact ⟨h.1, go _ (by simp) h.2⟩
              · rename_i c; rw [if_neg c]
                split at h
                · rename_i c; rw [if_pos c]; rw [Bool.and_eq_true] at h ⊢; exact ⟨h.1, go _ (by simp) h.2⟩
                · cases h
theorem inv_valid (t : Node) : (t.isStmt = true → t.inv.isStmt = true) ∧ (t.isBlock = true → t.inv.isBlock = true) := by
  induction t using Node.ind with
  | h t ih =>
    constructor
    · intro h
      have h1 : (⟨t.kind, t.num, t.name, t.kids.map invB⟩ : Node).isStmt = true := by
        refine stmt_map (fun k hk h0 => by unfold invB; rw [h0]; rfl) (fun k hk h0 => ?_) h
        unfold invB
        rw [isBlock_kind h0]
        exact (ih k hk).2 h0
      by_cases hp : t.kind ≠ 52 ∧ t.kind ≠ 53 ∧ t.kind ≠ 54 ∧ t.kind ≠ 55
      · rw [inv_plain h hp]
        rw [Node.isStmt_eq] at h ⊢
        dsimp only
        rw [invKind_eq]
        simp only [Bool.and_eq_true] at h ⊢
        refine ⟨h.1, ?_⟩
        have h := h.2
        by_cases e40 : t.kind = 40
        · simp [e40] at h ⊢; exact h
        by_cases e41 : t.kind = 41
        · simp [e41] at h ⊢; exact h
        by_cases e44 : t.kind = 44
        · simp [e44] at h ⊢; exact h
        by_cases e45 : t.kind = 45
        · simp [e45] at h ⊢; exact h
        by_cases e46 : t.kind = 46
        · simp [e46] at h ⊢; exact h
        by_cases e47 : t.kind = 47
        · simp [e47] at h ⊢; exact h
        by_cases e48 : t.kind = 48
        · simp [e48] at h ⊢; exact h
        by_cases e49 : t.kind = 49
        · simp [e49] at h ⊢; exact h
        by_cases e50 : t.kind = 50
        · simp [e50] at h ⊢; exact h
        by_cases e51 : t.kind = 51
        · simp [e51] at h ⊢; exact h
        rw [if_neg e40, if_neg e41, if_neg e44, if_neg e45, if_neg e46, if_neg e47, if_neg e48, if_neg e49, if_neg e50, if_neg e51]
        exact h
      · by_cases h4 : t.kind = 52 ∨ t.kind = 53
        · obtain ⟨a, b, c, d, e, hb, hc, ei⟩ := inv_four h h4
          rw [ei]
          rw [Node.isStmt_eq, e] at h
          rw [Node.isStmt_eq]
          have ihb := (ih b (by rw [e]; simp)).2 hb
          have ihc := (ih c (by rw [e]; simp)).2 hc
          rcases h4 with e4 | e4
          · simp [e4, shapeB, ihb, ihc] at h ⊢; exact ⟨h.1, h.2.1, h.2.2.2.2.2, h.2.2.1⟩
          · simp [e4, shapeB, ihb, ihc] at h ⊢; exact ⟨h.1, h.2.1, h.2.2.2.2.2, h.2.2.1⟩
        · by_cases h3 : t.kind = 54
          · obtain ⟨a, b, c, e, hb, ei⟩ := inv_three h h3
            rw [ei]
            rw [Node.isStmt_eq, e] at h
            rw [Node.isStmt_eq]
            have ihb := (ih b (by rw [e]; simp)).2 hb
            simp [h3, shapeB, ihb] at h ⊢; exact ⟨h.1, h.2.1, h.2.2.2.2, h.2.2.1⟩
          · have h5 : t.kind = 55 := by omega
            obtain ⟨a, e, hb, ei⟩ := inv_one h h5
            rw [ei]
            rw [Node.isStmt_eq, e] at h
            rw [Node.isStmt_eq]
            have ihb := (ih a (by rw [e]; simp)).2 hb
            simp [h5, shapeB, ihb] at h ⊢; exact ⟨h.1, h.2.1⟩
    · intro h
      rw [inv_block h]
      rw [Node.isBlock_eq] at h ⊢
      simp only [Bool.and_eq_true, List.all_eq_true, List.mem_reverse, List.mem_map, forall_exists_index, and_imp, forall_apply_eq_imp_iff₂] at h ⊢
      exact ⟨h.1, h.2.1, h.2.2.1, fun k hk => (ih k hk).1 (h.2.2.2 k hk)⟩
theorem inv_isStmt {t : Node} (h : t.isStmt = true) : t.inv.isStmt = true := (inv_valid t).1 h
theorem inv_isBlock {t : Node} (h : t.isBlock = true) : t.inv.isBlock = true := (inv_valid t).2 h
theorem inv_isStmt_eq (t : Node) : t.inv.isStmt = t.isStmt := by
  cases h : t.isStmt
  · cases h2 : t.inv.isStmt
    · rfl
    · have := inv_isStmt h2; rw [inv_inv, h] at this; cases this
  · exact inv_isStmt h
theorem invKind_set (k : Int) : invKind k = 56 ↔ k = 56 := by
  constructor
  · intro e
    have := invKind_invKind k
    rw [e] at this
    rw [← this]; decide
  · rintro rfl; decide

theorem simpAll_mem (P : Node → Prop) (ks : List Node) : ∀ acc : List Node, (∀ k ∈ acc, P k) → (∀ k ∈ ks, P k.eachS) → ∀ k ∈ simpAll acc ks, P k := by
  induction ks with
  | nil => intro acc h1 _; simpa [simpAll] using h1
  | cons k ks ih =>
    intro acc h1 h2
    rw [simpAll]
    refine ih _ ?_ (fun k hk => h2 k (by simp [hk]))
    intro x hx
    unfold pushC at hx
    split at hx
    · split at hx
      · exact h1 x (List.dropLast_subset _ hx)
      · rcases List.mem_append.1 hx with hx | hx
        · exact h1 x hx
        · simp at hx; subst hx; exact h2 k (by simp)
    · rcases List.mem_append.1 hx with hx | hx
      · exact h1 x hx
      · simp at hx; subst hx; exact h2 k (by simp)
theorem simp_valid (t : Node) : (t.isStmt = true → t.eachS.isStmt = true) ∧ (t.isBlock = true → t.simp.isBlock = true) := by
  induction t using Node.ind with
  | h t ih =>
    constructor
    · intro h
      rw [Node.eachS_eq]
      refine stmt_map (fun k hk h0 => by unfold simpB; rw [h0]; rfl) (fun k hk h0 => ?_) h
      unfold simpB
      rw [isBlock_kind h0]
      exact (ih k hk).2 h0
    · intro h
      rw [Node.simp_eq, Node.isBlock_eq]
      have hk := isBlock_kids h
      have := simpAll_mem (fun k => k.isStmt = true) t.kids [] (by simp) (fun k hk' => (ih k hk').1 (hk k hk'))
      simp only [Bool.and_eq_true, List.all_eq_true]
      exact ⟨by decide, by decide, by decide +kernel, this⟩
theorem eachS_kind (t : Node) : t.eachS.kind = t.kind := by rw [Node.eachS_eq]
theorem eachS_isStmt {t : Node} (h : t.isStmt = true) : t.eachS.isStmt = true := (simp_valid t).1 h
theorem simp_isBlock {t : Node} (h : t.isBlock = true) : t.simp.isBlock = true := (simp_valid t).2 h

/-! ### reduced rows -/
theorem cancelsB_iff (a b : Node) : cancelsB a b = true ↔ a.isStmt = true ∧ a.kind ≠ 56 ∧ b = a.inv := by
  unfold cancelsB
  simp only [Bool.and_eq_true, Bool.not_eq_true', beq_eq_false_iff_ne]
  constructor
  · rintro ⟨h1, _, h3, h4⟩; exact ⟨h1, h3, (eqB_eq _ _ h4).symm⟩
  · rintro ⟨h1, h2, rfl⟩; exact ⟨h1, inv_isStmt h1, h2, eqB_refl _⟩
/-- No two neighbours cancel. -/
def Redd (l : List Node) : Prop := ∀ u a b v, l = u ++ a :: b :: v → cancelsB a b = false
def redF (acc l : List Node) : List Node := l.foldl pushC acc
theorem simpAll_redF (acc ks : List Node) : simpAll acc ks = redF acc (ks.map Node.eachS) := by
  rw [simpAll_foldl]; unfold redF; rw [List.foldl_map]
theorem pushC_nil (s : Node) : pushC [] s = [s] := rfl
theorem pushC_snoc (d : List Node) (l s : Node) : pushC (d ++ [l]) s = if cancelsB l s then d else d ++ [l] ++ [s] := by
  unfold pushC
  simp
theorem redd_nil : Redd [] := by
  intro u a b v h; simp at h
theorem Redd.pre {d e : List Node} (h : Redd (d ++ e)) : Redd d := by
  rintro u a b v rfl
  exact h u a b (v ++ e) (by simp)
theorem Redd.snoc {d : List Node} {l s : Node} (h : Redd (d ++ [l])) (hc : cancelsB l s = false) : Redd (d ++ [l] ++ [s]) := by
  intro u a b v e
  rcases List.eq_nil_or_concat v with rfl | ⟨v', x, rfl⟩
  · have e2 : d ++ [l] ++ [s] = (u ++ [a]) ++ [b] := by rw [e]; simp
    obtain ⟨e3, e4⟩ := List.append_inj' e2 rfl
    obtain ⟨_, e5⟩ := List.append_inj' e3 rfl
    injection e4 with e4; injection e5 with e5
    rw [← e4, ← e5]; exact hc
  · have e2 : d ++ [l] ++ [s] = (u ++ a :: b :: v') ++ [x] := by rw [e]; simp
    obtain ⟨e3, _⟩ := List.append_inj' e2 rfl
    exact h u a b v' e3
theorem redd_one (s : Node) : Redd [s] := by
  intro u a b v h
  have := congrArg List.length h
  simp at this; omega
theorem Redd.push {acc : List Node} (h : Redd acc) (s : Node) : Redd (pushC acc s) := by
  rcases List.eq_nil_or_concat acc with rfl | ⟨d, l, rfl⟩
  · exact redd_one s
  · rw [List.concat_eq_append] at h ⊢
    rw [pushC_snoc]
    split
    · exact h.pre
    · rename_i hc
      exact h.snoc (by simpa using hc)
theorem Redd.redF : ∀ {l acc : List Node}, Redd acc → Redd (redF acc l)
  | [], _, h => h
  | s :: l, _, h => Redd.redF (l := l) (h.push s)
theorem redF_append (acc u v : List Node) : redF acc (u ++ v) = redF (redF acc u) v := by unfold redF; rw [List.foldl_append]
theorem redF_cons (acc : List Node) (a : Node) (v : List Node) : redF acc (a :: v) = redF (pushC acc a) v := rfl
theorem push_two {acc : List Node} {a b : Node} (h : Redd acc) (hc : cancelsB a b = true) : pushC (pushC acc a) b = acc := by
  obtain ⟨h1, h2, rfl⟩ := (cancelsB_iff a b).1 hc
  rcases List.eq_nil_or_concat acc with rfl | ⟨d, l, rfl⟩
  · rw [pushC_nil, show [a] = [] ++ [a] from rfl, pushC_snoc, hc]; rfl
  · rw [List.concat_eq_append] at h ⊢
    rw [pushC_snoc]
    split
    · rename_i hl
      obtain ⟨l1, l2, rfl⟩ := (cancelsB_iff l a).1 hl
      rw [inv_inv]
      rcases List.eq_nil_or_concat d with rfl | ⟨d', m, rfl⟩
      · rfl
      · rw [List.concat_eq_append] at h ⊢
        rw [pushC_snoc, if_neg]
        have := h d' m l [] (by simp)
        simp [this]
    · rw [pushC_snoc, if_pos hc]
theorem redF_two {acc u v : List Node} {a b : Node} (h : Redd acc) (hc : cancelsB a b = true) : redF acc (u ++ a :: b :: v) = redF acc (u ++ v) := by
  rw [redF_append, redF_append, redF_cons, redF_cons, push_two h.redF hc]
theorem redF_redd : ∀ (l acc : List Node), Redd (acc ++ l) → redF acc l = acc ++ l
  | [], acc, _ => by simp [redF]
  | s :: l, acc, h => by
    rw [redF_cons]
    have e : pushC acc s = acc ++ [s] := by
      rcases List.eq_nil_or_concat acc with rfl | ⟨d, m, rfl⟩
      · rfl
      · rw [List.concat_eq_append] at h ⊢
        rw [pushC_snoc, if_neg]
        have := h d m s l (by simp)
        simp [this]
    rw [e, redF_redd l (acc ++ [s]) (by simpa using h)]
    simp
/-- One row comes of another by removing neighbours that cancel. -/
inductive Steps : List Node → List Node → Prop
  | refl (l : List Node) : Steps l l
  | cut {u v l : List Node} {a b : Node} (hc : cancelsB a b = true) (h : Steps (u ++ v) l) : Steps (u ++ a :: b :: v) l
theorem Steps.red {l m : List Node} (h : Steps l m) : redF [] l = redF [] m := by
  induction h with
  | refl => rfl
  | cut hc _ ih => rw [redF_two redd_nil hc, ih]
theorem steps_redF : ∀ (l acc : List Node), Steps (acc ++ l) (redF acc l)
  | [], acc => by simpa [redF] using Steps.refl acc
  | s :: l, acc => by
    rw [redF_cons]
    rcases List.eq_nil_or_concat acc with rfl | ⟨d, m, rfl⟩
    · exact steps_redF l [s]
    · rw [List.concat_eq_append, pushC_snoc]
      split
      · rename_i hc
        have := steps_redF l d
        have := Steps.cut hc this
        simpa using this
      · have := steps_redF l (d ++ [m] ++ [s])
        simpa using this
def invRow (l : List Node) : List Node := (l.map Node.inv).reverse
theorem invRow_append (u v : List Node) : invRow (u ++ v) = invRow v ++ invRow u := by simp [invRow]
theorem invRow_cons (a : Node) (v : List Node) : invRow (a :: v) = invRow v ++ [a.inv] := by simp [invRow]
theorem invRow_invRow (l : List Node) : invRow (invRow l) = l := by
  simp only [invRow, List.map_reverse, List.reverse_reverse, List.map_map]
  conv => rhs; rw [← List.map_id l]
  exact List.map_congr_left (fun k _ => inv_inv k)
theorem cancelsB_inv {a b : Node} (h : cancelsB a b = true) : cancelsB b.inv a.inv = true := by
  obtain ⟨h1, h2, rfl⟩ := (cancelsB_iff a b).1 h
  rw [inv_inv]
  exact h
theorem Steps.inv {l m : List Node} (h : Steps l m) : Steps (invRow l) (invRow m) := by
  induction h with
  | refl => exact .refl _
  | @cut u v l a b hc _ ih =>
    have e : invRow (u ++ a :: b :: v) = invRow v ++ b.inv :: a.inv :: invRow u := by simp [invRow]
    rw [e]
    refine Steps.cut (cancelsB_inv hc) ?_
    rw [invRow_append] at ih
    exact ih
theorem Redd.inv {l : List Node} (h : Redd l) : Redd (invRow l) := by
  intro u a b v e
  have e2 : l = invRow v ++ b.inv :: a.inv :: invRow u := by
    rw [← invRow_invRow l, e]; simp [invRow]
  cases hc : cancelsB a b
  · rfl
  · have := cancelsB_inv hc
    rw [h _ _ _ _ e2] at this; cases this
theorem red_inv (l : List Node) : redF [] (invRow l) = invRow (redF [] l) := by
  have h := (steps_redF l []).inv.red
  simp only [List.nil_append] at h
  rw [h]
  exact redF_redd _ [] (by simpa using (Redd.redF redd_nil).inv)

/-! ### the simplified form of an inverse -/
theorem simp_inv (t : Node) : (t.isStmt = true → t.inv.eachS = t.eachS.inv) ∧ (t.isBlock = true → t.inv.simp = t.simp.inv) := by
  induction t using Node.ind with
  | h t ih =>
    constructor
    · intro h
      have h57 : (t.kind == 57) = false := isStmt_kind h
      have hB : ∀ k ∈ t.kids, simpB (invB k) = invB (simpB k) := by
        intro k hk
        cases h : (k.kind == 57)
        · have e1 : invB k = k := by unfold invB; rw [h]; rfl
          have e2 : simpB k = k := by unfold simpB; rw [h]; rfl
          rw [e1, e2, e1]
        · have hb := isStmt_kids ‹t.isStmt = true› k hk h
          have e : k.kind = 57 := by simpa using h
          have e1 : invB k = k.inv := by unfold invB; rw [h]; rfl
          have e2 : simpB k = k.simp := by unfold simpB; rw [h]; rfl
          have e3 : simpB k.inv = k.inv.simp := by
            unfold simpB
            rw [Node.inv_kind, e]; rfl
          have e4 : invB k.simp = k.simp.inv := by
            unfold invB
            rw [Node.simp_eq]; rfl
          rw [e1, e2, e3, e4]
          exact (ih k hk).2 hb
      have hm : (t.kids.map invB).map simpB = (t.kids.map simpB).map invB := by
        rw [List.map_map, List.map_map]
        exact List.map_congr_left hB
      rw [Node.eachS_eq t.inv, Node.inv_kind, Node.inv_num, Node.inv_name, Node.inv_eq t.eachS]
      rw [Node.eachS_eq t]
      dsimp only
      have hk : t.inv.kids = if t.kind == 57 then (invAll t.kids).reverse else if t.kind == 52 || (t.kind == 53 || t.kind == 54) then swapEnds (invBlocks t.kids) else invBlocks t.kids := by rw [Node.inv_eq]
      rw [hk, h57]
      congr 1
      cases hsw : (t.kind == 52 || (t.kind == 53 || t.kind == 54))
      · simp only [invBlocks_map, if_false, Bool.false_eq_true]; exact hm
      · simp only [invBlocks_map, if_true, if_false, Bool.false_eq_true]
        rw [← swapEnds_map, hm]
    · intro h
      have hk := isBlock_kids h
      rw [Node.simp_eq t.inv, inv_block h]
      dsimp only
      have hsi := inv_block (simp_isBlock h)
      rw [hsi, Node.simp_eq t]
      dsimp only
      congr 1
      rw [simpAll_redF, simpAll_redF]
      show redF [] ((t.kids.map Node.inv).reverse.map Node.eachS) = invRow (redF [] (t.kids.map Node.eachS))
      rw [← red_inv]
      congr 1
      simp only [invRow, List.map_reverse, List.map_map]
      congr 1
      exact List.map_congr_left (fun k hk' => (ih k hk').1 (hk k hk'))
/-- THE PLAIN LAW OF SimplifyInverts. -/
theorem inverts_plain {t : Node} (h : t.isBlock = true) : t.inv.simp.eqB t.simp.inv = true := by
  rw [(simp_inv t).2 h]; exact eqB_refl _
theorem eachS_inv {t : Node} (h : t.isStmt = true) : t.inv.eachS = t.eachS.inv := (simp_inv t).1 h

/-! ### a row and its inverse -/
theorem red_empties (l : List Node) (h : ∀ k ∈ l, k.isStmt = true ∧ k.kind ≠ 56) : redF [] (l ++ invRow l) = [] := by
  induction hn : l.length generalizing l with
  | zero => rw [List.length_eq_zero_iff.1 hn]; rfl
  | succ n ih =>
    rcases List.eq_nil_or_concat l with rfl | ⟨d, a, rfl⟩
    · rfl
    · rw [List.concat_eq_append] at h hn ⊢
      have ha := h a (by simp)
      have e : d ++ [a] ++ invRow (d ++ [a]) = d ++ a :: a.inv :: invRow d := by simp [invRow]
      rw [e, redF_two redd_nil ((cancelsB_iff a a.inv).2 ⟨ha.1, ha.2, rfl⟩)]
      exact ih d (fun k hk => h k (by simp [hk])) (by simpa using hn)
/-- THE PLAIN LAW OF SimplifyEmpties. -/
theorem empties_plain {t : Node} (h : t.isBlock = true) (hs : ∀ k ∈ t.kids, k.kind ≠ 56) (k n : Int) (s : ByteArray) : (⟨k, n, s, t.kids ++ t.inv.kids⟩ : Node).simp.kids = [] := by
  have hk := isBlock_kids h
  rw [Node.simp_eq, inv_block h]
  dsimp only
  rw [simpAll_redF]
  have e : (t.kids ++ (t.kids.map Node.inv).reverse).map Node.eachS = t.kids.map Node.eachS ++ invRow (t.kids.map Node.eachS) := by
    simp only [invRow, List.map_append, List.map_reverse, List.map_map]
    congr 2
    exact List.map_congr_left (fun k hk' => eachS_inv (hk k hk'))
  rw [e]
  refine red_empties _ fun k hk' => ?_
  obtain ⟨k0, h0, rfl⟩ := List.mem_map.1 hk'
  exact ⟨eachS_isStmt (hk k0 h0), by rw [eachS_kind]; exact hs k0 h0⟩
/-- THE PLAIN LAW OF SimplifyInserts. -/
theorem inserts_plain {t s : Node} (hs : s.isStmt = true) (h56 : s.kind ≠ 56) (j : Nat) (k n : Int) (m : ByteArray) : (⟨k, n, m, t.kids.take j ++ s :: s.inv :: t.kids.drop j⟩ : Node).simp.eqB t.simp = true := by
  have e : (⟨k, n, m, t.kids.take j ++ s :: s.inv :: t.kids.drop j⟩ : Node).simp = t.simp := by
    rw [Node.simp_eq, Node.simp_eq]
    dsimp only
    congr 1
    rw [simpAll_redF, simpAll_redF, List.map_append, List.map_cons, List.map_cons, eachS_inv hs]
    rw [redF_two redd_nil ((cancelsB_iff _ _).2 ⟨eachS_isStmt hs, by rw [eachS_kind]; exact h56, rfl⟩)]
    rw [← List.map_append, List.take_append_drop]
  rw [e]; exact eqB_refl _
end Go.Proofs.YtgjanglonccclaaDoor
