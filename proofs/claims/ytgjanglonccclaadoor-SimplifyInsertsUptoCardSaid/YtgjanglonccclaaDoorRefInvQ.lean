/- Rows of nodes that can be read, as they grow. -/
import Derived.Test.YtgjanglonccclaaDoorRefInvP
namespace Go.Proofs.YtgjanglonccclaaDoor
open Go.RowKit
set_option linter.unusedVariables false
set_option linter.unusedSimpArgs false

structure InParts (w : World) (X : Nat → Prop) (ks : List Node) (v : Value) (hs : List Hdr) : Prop where
  len : ks.length = hs.length
  row : w.ownsRow 0 24 4 v ks.length (valsAll ks hs)
  kids : ∀ j (h1 : j < ks.length) (h2 : j < hs.length), (ks[j]).In w (fun b => some b ≠ v.ownBlock ∧ ¬ X b) hs[j].A hs[j].c
  mine : ∀ g, v.ownBlock = some g → ¬ X g

theorem InParts.move {w w' : World} {X : Nat → Prop} {ks : List Node} {v : Value} {hs : List Hdr} (p : InParts w X ks v hs) (hb : ∀ b, b < w.heap.size → ¬ X b → w'.heap[b]? = w.heap[b]?) : InParts w' X ks v hs :=
  ⟨p.len, row_of_block p.row (fun g hg => hb g (row_lt p.row hg) (p.mine g hg)), fun j h1 h2 => Node.In.move (fun b hok hl => hb b hl hok.2) (fun b hok _ => hok) _ (p.kids j h1 h2), p.mine⟩
theorem InParts.below {w w' : World} {X : Nat → Prop} {ks : List Node} {v : Value} {hs : List Hdr} (p : InParts w X ks v hs) (hb : Below w.heap.size w w') : InParts w' X ks v hs :=
  p.move (fun b hl _ => hb.block b hl)
theorem InParts.nil {w : World} {X : Nat → Prop} : InParts w X [] (.slice none 0 0) [] :=
  ⟨rfl, ⟨by simp [valsAll], .inl ⟨rfl, rfl⟩⟩, fun j h1 => by simp at h1, fun g hg => by simp [Value.ownBlock] at hg⟩

theorem InParts.snoc {w w2 : World} {X : Nat → Prop} {ks : List Node} {v v2 : Value} {hs : List Hdr} (p : InParts w X ks v hs) {u : Node} {A3 : Option Addr} {c3 : Nat} (hu : u.In w (fun b => some b ≠ v.ownBlock ∧ ¬ X b) A3 c3)
    (hgr : w.grownBy w2 v.ownBlock) (hrow : w2.ownsRow 0 24 4 v2 (ks.length + 1) (valsAll ks hs ++ [.int .u8 u.kind, .int .i64 u.num, .string u.name, .slice A3 u.kids.length c3]))
    (hat : v2.ownBlock = v.ownBlock ∨ v2.ownBlock = some w.heap.size) (hX : ¬ X w.heap.size) : InParts w2 X (ks ++ [u]) v2 (hs ++ [⟨A3, c3, fun _ => True⟩]) := by
  have mv : ∀ {t : Node} {A : Option Addr} {c : Nat}, t.In w (fun b => some b ≠ v.ownBlock ∧ ¬ X b) A c → t.In w2 (fun b => some b ≠ v2.ownBlock ∧ ¬ X b) A c := fun h =>
    Node.In.move (fun b hok hl => grown_block hgr hl hok.1) (fun b hok hl => ⟨by
      rcases hat with e | e
      · rw [e]; exact hok.1
      · rw [e]; intro h2; injection h2 with h2; omega, hok.2⟩) _ h
  refine ⟨by simp [p.len], ?_, fun j h1 h2 => ?_, fun g hg => ?_⟩
  · rw [valsAll_append _ _ p.len, List.length_append]
    exact hrow
  · rcases Nat.lt_or_ge j ks.length with hj | hj
    · have hj2 : j < hs.length := by rw [← p.len]; exact hj
      have := mv (p.kids j hj hj2)
      rw [List.getElem_append_left hj, List.getElem_append_left hj2]
      exact this
    · have hje : j = ks.length := by simp at h1; omega
      subst hje
      have e1 : (ks ++ [u])[ks.length] = u := by simp
      have e2 : (hs ++ [(⟨A3, c3, fun _ => True⟩ : Hdr)])[ks.length] = ⟨A3, c3, fun _ => True⟩ := by
        rw [List.getElem_append_right (by rw [p.len]; exact Nat.le_refl _)]; simp
      rw [e1, e2]
      exact mv hu
  · rcases hat with e | e
    · exact p.mine g (by rw [← e]; exact hg)
    · rw [e] at hg; injection hg with hg; rw [← hg]; exact hX

/-- A row that was read, copied whole. -/
theorem InParts.copied {w w2 : World} {X ok : Nat → Prop} {ks : List Node} {v v2 : Value} {hs : List Hdr} (hlen : ks.length = hs.length) (hk : ∀ j (h1 : j < ks.length) (h2 : j < hs.length), (ks[j]).In w ok hs[j].A hs[j].c) (hX : ∀ b, ok b → ¬ X b) (hv : ∀ b, ok b → some b ≠ v.ownBlock)
    (hgr : w.grownBy w2 v.ownBlock) (hrow : w2.ownsRow 0 24 4 v2 ks.length (valsAll ks hs))
    (hat : v2.ownBlock = v.ownBlock ∨ v2.ownBlock = some w.heap.size) (hX2 : ∀ g, v2.ownBlock = some g → ¬ X g) : InParts w2 X ks v2 hs :=
  ⟨hlen, hrow, fun j h1 h2 => Node.In.move (fun b hok hl => grown_block hgr hl (hv b hok)) (fun b hok hl => ⟨by
      rcases hat with e | e
      · rw [e]; exact hv b hok
      · rw [e]; intro h2; injection h2 with h2; omega, hX b hok⟩) _ (hk j h1 h2), hX2⟩

theorem row_at {w : World} {ks : List Node} {hs : List Hdr} {v : Value} (row : w.ownsRow 0 24 4 v ks.length (valsAll ks hs)) (hlen : ks.length = hs.length) (j : Nat) (h1 : j < ks.length) :
    ∃ (g cap : Nat) (h2 : j < hs.length), v = .slice (some ⟨g, 0, none⟩) ks.length cap ∧ g < w.heap.size ∧ w.cell? ⟨g, j * 4, none⟩ = some (.int .u8 ks[j].kind) ∧ w.cell? ⟨g, j * 4 + 1, none⟩ = some (.int .i64 ks[j].num) ∧
      w.cell? ⟨g, j * 4 + 2, none⟩ = some (.string ks[j].name) ∧ w.cell? ⟨g, j * 4 + 3, none⟩ = some (.slice hs[j].A ks[j].kids.length hs[j].c) := by
  have h2 : j < hs.length := by rw [← hlen]; exact h1
  obtain ⟨g, cap, e, _, _⟩ := row.form (by omega)
  subst e
  have hv : ∀ i, i < 4 → w.cell? ⟨g, j * 4 + i, none⟩ = (ks[j].vals hs[j])[i]? := fun i hi => by
    rw [row.cellAt (j * 4 + i) (by omega), valsAll_at j i h1 h2 hi]
  exact ⟨g, cap, h2, rfl, row_lt row rfl, by have := hv 0 (by omega); simpa [Node.vals] using this, by have := hv 1 (by omega); simpa [Node.vals] using this, by have := hv 2 (by omega); simpa [Node.vals] using this, by have := hv 3 (by omega); simpa [Node.vals] using this⟩

theorem InParts.reads {w : World} {X : Nat → Prop} {t : Node} {A : Option Addr} {c : Nat} {hs : List Hdr} (p : InParts w X t.kids (.slice A t.kids.length c) hs) (hf : t.Fits) (hl : t.kids.length * 56 ≤ 140737488355328) : t.In w (fun b => ¬ X b) A c := by
  rw [Node.In_eq]
  obtain ⟨A0, c0, e0, hc⟩ := row_slice p.row
  injection e0 with e0 e1 e2
  refine ⟨hf, by omega, hl, ?_⟩
  by_cases hk : t.kids = []
  · exact .inl hk
  · right
    obtain ⟨g, cap, _, hA, hg, _⟩ := row_at p.row p.len 0 (List.length_pos_iff.2 hk)
    injection hA with hA
    subst hA
    refine ⟨g, 0, rfl, p.mine g rfl, RowIn.iff.2 fun j hj => ?_⟩
    obtain ⟨g', cap', h2, hA', _, c0, c1, c2, c3⟩ := row_at p.row p.len j hj
    obtain rfl : g' = g := by injection hA' with e; injection e with e; injection e with e; exact e.symm
    rw [Nat.zero_add]
    exact ⟨hs[j].A, hs[j].c, c0, c1, c2, c3, Node.In.move (fun _ _ _ => rfl) (fun x hx _ => hx.2) _ (p.kids j hj h2)⟩
end Go.Proofs.YtgjanglonccclaaDoor
