/- Inverting statements and blocks, as plain Lean. No program in sight. -/
import Derived.Test.YtgjanglonccclaaDoorBA
import Derived.Deep.AppendLies
import Derived.Maps.AppendAt
import Derived.Laws.OwnMore
import Derived.Deep.RegionLaw
import Derived.BigRegion
import Derived.StillTailTactics
import Derived.Deep.RegionHeld3
import Derived.OwnWalk
namespace Go.Proofs.YtgjanglonccclaaDoor
open Go.RowKit
set_option linter.unusedVariables false
set_option linter.unusedSimpArgs false

def pairAt (i : Nat) : Int := [40, 44, 46, 48, 50].getD i 0
def invFrom (k : Int) : Nat → Nat → Int
  | 0, _ => k
  | n + 1, i => if k == pairAt i then pairAt i + 1 else if k == pairAt i + 1 then pairAt i else invFrom k n (i + 1)
/-- The kind of the inverse statement. -/
def invKind (k : Int) : Int := invFrom k 5 0
theorem invKind_eq (k : Int) : invKind k = if k = 40 then 41 else if k = 41 then 40 else if k = 44 then 45 else if k = 45 then 44 else if k = 46 then 47 else if k = 47 then 46 else if k = 48 then 49 else if k = 49 then 48 else if k = 50 then 51 else if k = 51 then 50 else k := by
  simp [invKind, invFrom, pairAt]
theorem invKind_invKind (k : Int) : invKind (invKind k) = k := by
  rw [invKind_eq, invKind_eq]
  repeat' split
  all_goals omega
end Go.Proofs.YtgjanglonccclaaDoor

/- The inverse of a statement or block, as plain Lean. No program in sight. -/
namespace Go.Proofs.YtgjanglonccclaaDoor
open Go.RowKit
set_option linter.unusedVariables false
set_option linter.unusedSimpArgs false

/-- The first and the last element exchanged. -/
def swapEnds : List Node → List Node
  | [a, b, c, d] => [d, b, c, a]
  | [a, b, c] => [c, b, a]
  | l => l
mutual
def Node.inv : Node → Node
  | ⟨k, n, s, ks⟩ => ⟨invKind k, n, s, if k == 57 then (invAll ks).reverse else if k == 52 || (k == 53 || k == 54) then swapEnds (invBlocks ks) else invBlocks ks⟩
def invAll : List Node → List Node
  | [] => []
  | t :: ts => t.inv :: invAll ts
def invBlocks : List Node → List Node
  | [] => []
  | t :: ts => (if t.kind == 57 then t.inv else t) :: invBlocks ts
end
theorem Node.inv_eq (t : Node) : t.inv = ⟨invKind t.kind, t.num, t.name, if t.kind == 57 then (invAll t.kids).reverse else if t.kind == 52 || (t.kind == 53 || t.kind == 54) then swapEnds (invBlocks t.kids) else invBlocks t.kids⟩ := by cases t; simp only [Node.inv]
theorem invAll_map (l : List Node) : invAll l = l.map Node.inv := by
  induction l with
  | nil => rfl
  | cons a l ih => simp [invAll, ih]
def invB (t : Node) : Node := if t.kind == 57 then t.inv else t
theorem invBlocks_map (l : List Node) : invBlocks l = l.map invB := by
  induction l with
  | nil => rfl
  | cons a l ih => simp [invBlocks, invB, ih]
theorem Node.inv_kind (t : Node) : t.inv.kind = invKind t.kind := by rw [Node.inv_eq]
theorem Node.inv_num (t : Node) : t.inv.num = t.num := by rw [Node.inv_eq]
theorem Node.inv_name (t : Node) : t.inv.name = t.name := by rw [Node.inv_eq]
theorem swapEnds_length (l : List Node) : (swapEnds l).length = l.length := by
  rcases l with _ | ⟨a, _ | ⟨b, _ | ⟨c, _ | ⟨d, _ | ⟨e, r⟩⟩⟩⟩⟩ <;> rfl
theorem Node.inv_kids_length (t : Node) : t.inv.kids.length = t.kids.length := by
  rw [Node.inv_eq]
  dsimp only
  split
  · simp [invAll_map]
  · split
    · rw [swapEnds_length]; simp [invBlocks_map]
    · simp [invBlocks_map]
end Go.Proofs.YtgjanglonccclaaDoor

/- Which children of a statement are blocks. No program in sight. -/
namespace Go.Proofs.YtgjanglonccclaaDoor
open Go.RowKit
set_option linter.unusedVariables false
set_option linter.unusedSimpArgs false

theorem isExpr_kind {t : Node} (h : t.isExpr = true) : (t.kind == 57) = false := by
  cases hk : (t.kind == 57)
  · rfl
  · exfalso
    have e : t.kind = 57 := by simpa using hk
    rw [Node.isExpr_eq] at h
    simp [e] at h
theorem isPlace_kind {t : Node} (h : t.isPlace = true) : (t.kind == 57) = false := by
  simp only [Node.isPlace, Bool.and_eq_true] at h
  exact isExpr_kind h.2
theorem isVar_kind {t : Node} (h : t.isVar = true) : (t.kind == 57) = false := by
  simp only [Node.isVar, Bool.and_eq_true] at h
  exact isExpr_kind h.2
theorem isStmt_kind {t : Node} (h : t.isStmt = true) : (t.kind == 57) = false := by
  cases hk : (t.kind == 57)
  · rfl
  · exfalso
    have e : t.kind = 57 := by simpa using hk
    rw [Node.isStmt_eq] at h
    simp [e] at h
theorem isBlock_kind {t : Node} (h : t.isBlock = true) : (t.kind == 57) = true := by
  rw [Node.isBlock_eq] at h
  simp only [Bool.and_eq_true] at h
  exact h.1
theorem shapeB_mem {ks : List Node} {ps : List (Node → Bool)} (h : shapeB ks ps = true) : ∀ k ∈ ks, ∃ p ∈ ps, p k = true := by
  intro k hk
  simp only [shapeB, Bool.and_eq_true, beq_iff_eq, List.all_eq_true] at h
  obtain ⟨j, hj, rfl⟩ := List.getElem_of_mem hk
  refine ⟨ps[j]'(by omega), List.getElem_mem _, h.2 (ks[j], ps[j]'(by omega)) ?_⟩
  rw [List.mem_iff_getElem]
  exact ⟨j, by simp; omega, by simp⟩
theorem shapeB_length {ks : List Node} {ps : List (Node → Bool)} (h : shapeB ks ps = true) : ks.length = ps.length := by
  simp only [shapeB, Bool.and_eq_true, beq_iff_eq] at h
  exact h.1

/-- What a statement's kind says of its children. -/
theorem isStmt_kids {t : Node} (h : t.isStmt = true) : ∀ k ∈ t.kids, (k.kind == 57) = true → k.isBlock = true := by
  intro k hk h57
  rw [Node.isStmt_eq, Bool.and_eq_true] at h
  have h := h.2
  have no : ∀ p : Node → Bool, (p = Node.isPlace ∨ p = Node.isExpr) → p k = true → False := by
    rintro p (rfl | rfl) hp
    · rw [isPlace_kind hp] at h57; cases h57
    · rw [isExpr_kind hp] at h57; cases h57
  have go : ∀ ps : List (Node → Bool), shapeB t.kids ps = true → (∀ p ∈ ps, p = Node.isPlace ∨ p = Node.isExpr ∨ p = Node.isBlock) → k.isBlock = true := by
    intro ps hs hps
    obtain ⟨p, hp, hpk⟩ := shapeB_mem hs k hk
    rcases hps p hp with rfl | rfl | rfl
    · exact (no _ (.inl rfl) hpk).elim
    · exact (no _ (.inr rfl) hpk).elim
    · exact hpk
  split at h
  · rw [Bool.and_eq_true] at h; exact go _ h.2 (by simp)
  · split at h
    · rw [Bool.and_eq_true] at h; exact go _ h.2 (by simp)
    · split at h
      · rw [Bool.and_eq_true] at h; exact go _ h.2 (by simp)
      · split at h
        · rw [Bool.and_eq_true] at h; exact go _ h.2 (by simp)
        · split at h
          · simp only [Bool.and_eq_true, List.all_eq_true] at h
            have := isVar_kind (h.2.2 k hk)
            rw [this] at h57; cases h57
          · split at h
            · rw [Bool.and_eq_true] at h; exact go _ h.2 (by simp)
            · split at h
              · rw [Bool.and_eq_true] at h; exact go _ h.2 (by simp)
              · split at h
                · rw [Bool.and_eq_true] at h; exact go _ h.2 (by simp)
                · cases h
theorem isStmt_four {t : Node} (h : t.isStmt = true) (hk : t.kind = 52 ∨ t.kind = 53) : t.kids.length = 4 := by
  rw [Node.isStmt_eq, Bool.and_eq_true] at h
  have h := h.2
  rcases hk with hk | hk <;> (simp [hk] at h; exact shapeB_length h.2)
theorem isStmt_three {t : Node} (h : t.isStmt = true) (hk : t.kind = 54) : t.kids.length = 3 := by
  rw [Node.isStmt_eq, Bool.and_eq_true] at h
  have h := h.2
  simp [hk] at h; exact shapeB_length h.2
theorem isBlock_kids {t : Node} (h : t.isBlock = true) : ∀ k ∈ t.kids, k.isStmt = true := by
  rw [Node.isBlock_eq] at h
  simp only [Bool.and_eq_true, List.all_eq_true] at h
  exact h.2.2.2

theorem invKind_range {k : Int} (h0 : 0 ≤ k) (h1 : k ≤ 255) : 0 ≤ invKind k ∧ invKind k ≤ 255 := by
  rw [invKind_eq]
  repeat' split
  all_goals omega
theorem invKind_fixed (k : Int) (h : k = 52 ∨ k = 53 ∨ k = 54 ∨ k = 57) : invKind k = k := by
  rcases h with rfl | rfl | rfl | rfl <;> decide
theorem invKind_back (k m : Int) (h : m = 52 ∨ m = 53 ∨ m = 54 ∨ m = 57) (e : invKind k = m) : k = m := by
  have := invKind_invKind k
  rw [e, invKind_fixed m h] at this
  exact this.symm
end Go.Proofs.YtgjanglonccclaaDoor

/- Trees that a call has made: 'Node.Own w t h': the children of t lie behind the header h in blocks of their own (h.F), no block serving twice. -/
namespace Go.Proofs.YtgjanglonccclaaDoor
open Go.RowKit
set_option linter.unusedVariables false
set_option linter.unusedSimpArgs false

/-- Where the children of a node lie: the slice's address and capacity, and the blocks. -/
structure Hdr where
  A : Option Addr
  c : Nat
  F : Nat → Prop

def Node.vals (t : Node) (h : Hdr) : List Value := [.int .u8 t.kind, .int .i64 t.num, .string t.name, .slice h.A t.kids.length h.c]
def valsAll : List Node → List Hdr → List Value
  | t :: ts, h :: hs => t.vals h ++ valsAll ts hs
  | _, _ => []
/-- The slice of the children. -/
def Hdr.val (h : Hdr) (n : Nat) : Value := .slice h.A n h.c

mutual
def Node.Own (w : World) : Node → Hdr → Prop
  | ⟨k, n, s, ks⟩, h => Node.Fits ⟨k, n, s, ks⟩ ∧ ks.length * 56 ≤ 140737488355328 ∧ ∃ hs, KidsOwn w ks hs ∧ w.ownsRow 0 24 4 (h.val ks.length) ks.length (valsAll ks hs) ∧
      (∀ b, (h.val ks.length).ownBlock = some b → h.F b ∧ ∀ g ∈ hs, ¬ g.F b) ∧ (∀ g ∈ hs, ∀ x, g.F x → h.F x) ∧ hs.Pairwise (fun g1 g2 => ∀ x, g1.F x → ¬ g2.F x)
def KidsOwn (w : World) : List Node → List Hdr → Prop
  | [], [] => True
  | t :: ts, h :: hs => t.Own w h ∧ KidsOwn w ts hs
  | [], _ :: _ => False
  | _ :: _, [] => False
end
/-- The row of a node's children, and what is known of its parts. -/
structure OwnParts (w : World) (ks : List Node) (h : Hdr) (hs : List Hdr) : Prop where
  kids : KidsOwn w ks hs
  row : w.ownsRow 0 24 4 (h.val ks.length) ks.length (valsAll ks hs)
  mine : ∀ b, (h.val ks.length).ownBlock = some b → h.F b ∧ ∀ g ∈ hs, ¬ g.F b
  sub : ∀ g ∈ hs, ∀ x, g.F x → h.F x
  apart : hs.Pairwise (fun g1 g2 => ∀ x, g1.F x → ¬ g2.F x)
theorem Node.Own_eq {w : World} {t : Node} {h : Hdr} : t.Own w h ↔ t.Fits ∧ t.kids.length * 56 ≤ 140737488355328 ∧ ∃ hs, OwnParts w t.kids h hs := by
  obtain ⟨k, n, s, ks⟩ := t
  simp only [Node.Own]
  constructor
  · rintro ⟨h1, h2, hs, a, b, c, d, e⟩; exact ⟨h1, h2, hs, ⟨a, b, c, d, e⟩⟩
  · rintro ⟨h1, h2, hs, ⟨a, b, c, d, e⟩⟩; exact ⟨h1, h2, hs, a, b, c, d, e⟩

theorem KidsOwn.len {w : World} : ∀ {ks : List Node} {hs : List Hdr}, KidsOwn w ks hs → ks.length = hs.length
  | [], [], _ => rfl
  | _ :: ts, _ :: hs, h => by simp [KidsOwn.len (ks := ts) (hs := hs) h.2]
  | [], _ :: _, h => by simp [KidsOwn] at h
  | _ :: _, [], h => by simp [KidsOwn] at h
theorem KidsOwn.iff {w : World} : ∀ {ks : List Node} {hs : List Hdr}, KidsOwn w ks hs ↔ ks.length = hs.length ∧ ∀ j (h1 : j < ks.length) (h2 : j < hs.length), (ks[j]).Own w hs[j]
  | [], [] => by simp [KidsOwn]
  | [], _ :: _ => by simp [KidsOwn]
  | _ :: _, [] => by simp [KidsOwn]
  | t :: ts, h :: hs => by
    rw [KidsOwn, KidsOwn.iff (ks := ts) (hs := hs)]
    constructor
    · rintro ⟨h0, hl, hj⟩
      refine ⟨by simp [hl], fun j h1 h2 => ?_⟩
      cases j with
      | zero => exact h0
      | succ j => exact hj j (by simpa using h1) (by simpa using h2)
    · rintro ⟨hl, hj⟩
      refine ⟨hj 0 (by simp) (by simp), by simpa using hl, fun j h1 h2 => ?_⟩
      exact hj (j + 1) (by simpa using h1) (by simpa using h2)

theorem valsAll_length : ∀ {ks : List Node} {hs : List Hdr}, ks.length = hs.length → (valsAll ks hs).length = ks.length * 4
  | [], [], _ => rfl
  | t :: ts, h :: hs, hl => by
    rw [valsAll, List.length_append, valsAll_length (ks := ts) (hs := hs) (by simpa using hl)]
    simp [Node.vals]; omega
  | [], _ :: _, hl => by simp at hl
  | _ :: _, [], hl => by simp at hl
theorem valsAll_at : ∀ {ks : List Node} {hs : List Hdr} (j i : Nat) (h1 : j < ks.length) (h2 : j < hs.length), i < 4 → (valsAll ks hs)[j * 4 + i]? = (ks[j].vals hs[j])[i]?
  | [], _, _, _, h1, _, _ => by simp at h1
  | _ :: _, [], _, _, _, h2, _ => by simp at h2
  | t :: ts, h :: hs, 0, i, _, _, hi => by
    simp only [valsAll, Nat.zero_mul, Nat.zero_add, List.getElem_cons_zero]
    rw [List.getElem?_append_left (by simp [Node.vals]; omega)]
  | t :: ts, h :: hs, j + 1, i, h1, h2, hi => by
    simp only [valsAll, List.getElem_cons_succ]
    rw [List.getElem?_append_right (by simp [Node.vals]; omega)]
    rw [show (j + 1) * 4 + i - (t.vals h).length = j * 4 + i by simp [Node.vals]; omega]
    exact valsAll_at j i (by simpa using h1) (by simpa using h2) hi
theorem valsAll_append : ∀ {ks : List Node} {hs : List Hdr} (ks2 : List Node) (hs2 : List Hdr), ks.length = hs.length → valsAll (ks ++ ks2) (hs ++ hs2) = valsAll ks hs ++ valsAll ks2 hs2
  | [], [], _, _, _ => rfl
  | t :: ts, h :: hs, ks2, hs2, hl => by
    simp only [List.cons_append, valsAll, List.append_assoc]
    rw [valsAll_append (ks := ts) (hs := hs) ks2 hs2 (by simpa using hl)]
  | [], _ :: _, _, _, hl => by simp at hl
  | _ :: _, [], _, _, hl => by simp at hl

theorem row_of_block {w w' : World} {base : Nat} {e : TypeId} {size n : Nat} {v : Value} {xs : List Value} (h : w.ownsRow base e size v n xs) (hb : ∀ g, v.ownBlock = some g → w'.heap[g]? = w.heap[g]?) : w'.ownsRow base e size v n xs := by
  refine ⟨h.1, ?_⟩
  rcases h.2 with h2 | ⟨g, cap, cur, rfl, h3, h4, r⟩
  · exact .inl h2
  · exact .inr ⟨g, cap, cur, rfl, h3, by rw [hb g rfl]; exact h4, r⟩
theorem row_lt {w : World} {base : Nat} {e : TypeId} {size n : Nat} {v : Value} {xs : List Value} (h : w.ownsRow base e size v n xs) {g : Nat} (hg : v.ownBlock = some g) : g < w.heap.size := (h.lt g hg).2

/-- What is owned stands where its blocks stand. -/
theorem Node.Own.move {w w' : World} : ∀ (t : Node) {h : Hdr}, (∀ x, h.F x → x < w.heap.size → w'.heap[x]? = w.heap[x]?) → t.Own w h → t.Own w' h := by
  intro t
  induction t using Node.ind with
  | h t ih =>
    intro h hb ho
    rw [Node.Own_eq] at ho ⊢
    obtain ⟨h1, h2, hs, p⟩ := ho
    refine ⟨h1, h2, hs, ⟨?_, ?_, p.mine, p.sub, p.apart⟩⟩
    · rw [KidsOwn.iff]
      refine ⟨p.kids.len, fun j g1 g2 => ?_⟩
      refine ih _ (List.getElem_mem _) (fun x hx hlt => hb x (p.sub _ (List.getElem_mem _) x hx) hlt) ((KidsOwn.iff.1 p.kids).2 j g1 g2)
    · exact row_of_block p.row fun g hg => hb g (p.mine g hg).1 (row_lt p.row hg)
theorem Node.Own.below {w w' : World} {t : Node} {h : Hdr} (ho : t.Own w h) (hb : Below w.heap.size w w') : t.Own w' h := Node.Own.move t (fun x _ hx => hb.block x hx) ho
theorem Node.Own.mono {w : World} {t : Node} {h : Hdr} {F : Nat → Prop} (ho : t.Own w h) (hF : ∀ x, h.F x → F x) : t.Own w { h with F := F } := by
  rw [Node.Own_eq] at ho ⊢
  obtain ⟨h1, h2, hs, p⟩ := ho
  exact ⟨h1, h2, hs, ⟨p.kids, p.row, fun b hb => ⟨hF b (p.mine b hb).1, (p.mine b hb).2⟩, fun g hg x hx => hF x (p.sub g hg x hx), p.apart⟩⟩
def Hdr.tight (w : World) (h : Hdr) : Hdr := { h with F := fun x => h.F x ∧ x < w.heap.size }
theorem valsAll_tight (w : World) : ∀ (ks : List Node) (hs : List Hdr), valsAll ks (hs.map (Hdr.tight w)) = valsAll ks hs
  | [], _ => by simp [valsAll]
  | _ :: _, [] => by simp [valsAll]
  | t :: ts, h :: hs => by simp only [List.map_cons, valsAll]; rw [valsAll_tight w ts hs]; rfl
/-- The blocks that are there are enough. -/
theorem Node.Own.tight {w : World} : ∀ (t : Node) {h : Hdr}, t.Own w h → t.Own w (h.tight w) := by
  intro t
  induction t using Node.ind with
  | h t ih =>
    intro h ho
    rw [Node.Own_eq] at ho ⊢
    obtain ⟨h1, h2, hs, p⟩ := ho
    refine ⟨h1, h2, hs.map (Hdr.tight w), ⟨?_, ?_, ?_, ?_, ?_⟩⟩
    · rw [KidsOwn.iff]
      refine ⟨by simp [p.kids.len], fun j g1 g2 => ?_⟩
      rw [List.getElem_map]
      exact ih _ (List.getElem_mem _) ((KidsOwn.iff.1 p.kids).2 j g1 (by simpa using g2))
    · rw [valsAll_tight]; exact p.row
    · intro b hb
      refine ⟨⟨(p.mine b hb).1, row_lt p.row hb⟩, fun g hg hF => ?_⟩
      obtain ⟨g0, hg0, rfl⟩ := List.mem_map.1 hg
      exact (p.mine b hb).2 g0 hg0 hF.1
    · intro g hg x hx
      obtain ⟨g0, hg0, rfl⟩ := List.mem_map.1 hg
      exact ⟨p.sub g0 hg0 x hx.1, hx.2⟩
    · rw [List.pairwise_map]
      exact p.apart.imp fun hd x h1 h2 => hd x h1.1 h2.1

theorem OwnParts.below {w w' : World} {ks : List Node} {h : Hdr} {hs : List Hdr} (p : OwnParts w ks h hs) (hb : Below w.heap.size w w') : OwnParts w' ks h hs :=
  ⟨KidsOwn.iff.2 ⟨p.kids.len, fun j g1 g2 => ((KidsOwn.iff.1 p.kids).2 j g1 g2).below hb⟩, row_of_block p.row fun g hg => hb.block g (row_lt p.row hg), p.mine, p.sub, p.apart⟩
/-- Cells that an append leaves alone. -/
theorem grown_cell {w w1 : World} {row : Option Nat} (hg : w.grownBy w1 row) {b : Nat} (hb : b < w.heap.size) (hr : some b ≠ row) (i : Nat) : w1.cell? ⟨b, i, none⟩ = w.cell? ⟨b, i, none⟩ :=
  World.cell?_of_block (w := w) (a := ⟨b, i, none⟩) (hg.block b hb hr)
theorem grown_block {w w1 : World} {row : Option Nat} (hg : w.grownBy w1 row) {b : Nat} (hb : b < w.heap.size) (hr : some b ≠ row) : w1.heap[b]? = w.heap[b]? := hg.block b hb hr
theorem cell_after {w1 w2 : World} {o : Obj} {row : Option Nat} (hg : (w1.alloc o).grownBy w2 row) {b i : Nat} {v : Value} (hc : w1.cell? ⟨b, i, none⟩ = some v) (hr : some b ≠ row) : w2.cell? ⟨b, i, none⟩ = some v := by
  have hb : b < w1.heap.size := World.block_lt_of_cell? _ _ hc
  rw [grown_cell hg (by simp; omega) hr, World.cell?_of_block (w := w1) ((Go.MapKept.heap_alloc w1 o).2 _ hb)]
  exact hc
theorem block_after {w1 w2 : World} {o x : Obj} {row : Option Nat} (hg : (w1.alloc o).grownBy w2 row) {b : Nat} (hc : w1.heap[b]? = some x) (hr : some b ≠ row) : w2.heap[b]? = some x := by
  have hb : b < w1.heap.size := (Array.getElem?_eq_some_iff.1 hc).1
  rw [grown_block hg (by simp; omega) hr, (Go.MapKept.heap_alloc w1 o).2 _ hb]
  exact hc
/-- Element j of an owned row, in memory. -/
theorem OwnParts.at_ {w : World} {ks : List Node} {h : Hdr} {hs : List Hdr} (p : OwnParts w ks h hs) (j : Nat) (h1 : j < ks.length) :
    ∃ (g : Nat) (h2 : j < hs.length), h.A = some ⟨g, 0, none⟩ ∧ h.F g ∧ g < w.heap.size ∧ (∀ i, w.frozen? ⟨g, i, none⟩ = false) ∧ w.cell? ⟨g, j * 4, none⟩ = some (.int .u8 ks[j].kind) ∧ w.cell? ⟨g, j * 4 + 1, none⟩ = some (.int .i64 ks[j].num) ∧
      w.cell? ⟨g, j * 4 + 2, none⟩ = some (.string ks[j].name) ∧ w.cell? ⟨g, j * 4 + 3, none⟩ = some (.slice hs[j].A ks[j].kids.length hs[j].c) ∧ (ks[j]).Own w hs[j] := by
  have h2 : j < hs.length := by rw [← p.kids.len]; exact h1
  obtain ⟨g, cap, e, _, _⟩ := p.row.form (by omega)
  have hA : h.A = some ⟨g, 0, none⟩ := by simp only [Hdr.val] at e; injection e
  have hc : h.c = cap := by simp only [Hdr.val] at e; injection e
  have hrow : w.ownsRow 0 24 4 (.slice (some ⟨g, 0, none⟩) ks.length cap) ks.length (valsAll ks hs) := by rw [← e]; exact p.row
  have hm := p.mine g (by rw [e]; rfl)
  have hv : ∀ i, i < 4 → w.cell? ⟨g, j * 4 + i, none⟩ = (ks[j].vals hs[j])[i]? := fun i hi => by
    rw [hrow.cellAt (j * 4 + i) (by omega), valsAll_at j i h1 h2 hi]
  refine ⟨g, h2, hA, hm.1, row_lt hrow rfl, fun i => hrow.frozenAt i, by have := hv 0 (by omega); simpa [Node.vals] using this, by have := hv 1 (by omega); simpa [Node.vals] using this, by have := hv 2 (by omega); simpa [Node.vals] using this, by have := hv 3 (by omega); simpa [Node.vals] using this, (KidsOwn.iff.1 p.kids).2 j h1 h2⟩

theorem Node.Own.cap {w : World} {t : Node} {h : Hdr} (ho : t.Own w h) : t.kids.length ≤ h.c ∧ h.c ≤ maxLen := by
  obtain ⟨_, _, hs, p⟩ := Node.Own_eq.1 ho
  rcases p.row.2 with ⟨h0, h1⟩ | ⟨g, cap, cur, hv, _, _, h3, h4, _⟩
  · simp only [Hdr.val, Value.slice.injEq] at h0; omega
  · simp only [Hdr.val, Value.slice.injEq] at hv; omega
/-- What is owned can be read. -/
theorem Node.Own.reads {w : World} : ∀ (t : Node) {h : Hdr}, t.Own w h → t.In w h.F h.A h.c := by
  intro t
  induction t using Node.ind with
  | h t ih =>
    intro h ho
    have hcap := ho.cap
    rw [Node.Own_eq] at ho
    obtain ⟨h1, h2, hs, p⟩ := ho
    rw [Node.In_eq]
    refine ⟨h1, hcap.1, h2, ?_⟩
    by_cases hk : t.kids = []
    · exact .inl hk
    · right
      obtain ⟨g, _, hA, hF, _⟩ := p.at_ 0 (List.length_pos_iff.2 hk)
      refine ⟨g, 0, hA, hF, RowIn.iff.2 fun j hj => ?_⟩
      obtain ⟨g', h2', hA', _, _, _, e0, e1, e2, e3, e4⟩ := p.at_ j hj
      obtain rfl : g' = g := by rw [hA] at hA'; injection hA' with e; injection e with e; exact e.symm
      rw [Nat.zero_add]
      refine ⟨hs[j].A, hs[j].c, e0, e1, e2, e3, ?_⟩
      exact Node.In.move (fun _ _ _ => rfl) (fun x hx _ => p.sub _ (List.getElem_mem _) x hx) _ (ih _ (List.getElem_mem _) e4)

theorem Node.Own.leaf {w : World} {t : Node} (hf : t.Fits) (F : Nat → Prop) (hk : t.kids = []) : t.Own w ⟨none, 0, F⟩ := by
  rw [Node.Own_eq]
  refine ⟨hf, by rw [hk]; simp, [], ?_⟩
  rw [hk]
  exact ⟨trivial, ⟨by simp [valsAll], .inl ⟨rfl, rfl⟩⟩, fun b hb => by simp [Hdr.val, Value.ownBlock] at hb, fun g hg => by simp at hg, List.Pairwise.nil⟩

/-- A child more. -/
theorem Node.Own.snoc {w w1 : World} {k n : Int} {s : ByteArray} {ks : List Node} {h : Hdr} {hs : List Hdr} {u : Node} {hu : Hdr} (hf : Node.Fits ⟨k, n, s, ks ++ [u]⟩) (p : OwnParts w ks h hs) (hT : ∀ x, h.F x → x < w.heap.size)
    (huo : u.Own w hu) (hd : ∀ x, hu.F x → ¬ h.F x) (huT : ∀ x, hu.F x → x < w.heap.size) {g cap : Nat}
    (hrow : w1.ownsRow 0 24 4 (.slice (some ⟨g, 0, none⟩) (ks.length + 1) cap) (ks.length + 1) (valsAll ks hs ++ u.vals hu)) (hgr : w.grownBy w1 (h.val ks.length).ownBlock)
    (hg : (h.val ks.length).ownBlock = some g ∨ g = w.heap.size) (hlen : (ks.length + 1) * 56 ≤ 140737488355328) :
    (⟨k, n, s, ks ++ [u]⟩ : Node).Own w1 ⟨some ⟨g, 0, none⟩, cap, fun x => h.F x ∨ hu.F x ∨ x = w.heap.size⟩ := by
  have hst : ∀ (t : Node) (g1 : Hdr), t.Own w g1 → (∀ x, g1.F x → x < w.heap.size → some x ≠ (h.val ks.length).ownBlock) → t.Own w1 g1 := fun t g1 ho hne =>
    Node.Own.move t (fun x hx hlt => hgr.block x hlt (hne x hx hlt)) ho
  rw [Node.Own_eq]
  refine ⟨hf, by simpa using hlen, hs ++ [hu], ⟨?_, ?_, ?_, ?_, ?_⟩⟩
  · rw [KidsOwn.iff]
    refine ⟨by simp [p.kids.len], fun j h1 h2 => ?_⟩
    have hl := p.kids.len
    by_cases hj : j < ks.length
    · rw [List.getElem_append_left hj, List.getElem_append_left (by omega)]
      refine hst _ _ ((KidsOwn.iff.1 p.kids).2 j hj (by omega)) (fun x hx hlt he => ?_)
      exact (p.mine x he.symm).2 _ (List.getElem_mem _) hx
    · have hj' : j = ks.length := by simp at h1; omega
      subst hj'
      have e1 : (ks ++ [u])[ks.length]'h1 = u := by simp
      have e2 : (hs ++ [hu])[ks.length]'h2 = hu := by simp [hl]
      rw [e1, e2]
      exact hst _ _ huo (fun x hx hlt he => hd x hx (p.mine x he.symm).1)
  · rw [valsAll_append _ _ p.kids.len]
    simp only [valsAll, List.append_nil, List.length_append, List.length_singleton]
    exact hrow
  · intro b hb
    obtain rfl : g = b := by simpa [Hdr.val, Value.ownBlock] using hb
    rcases hg with hg | hg
    · have hm := p.mine g hg
      refine ⟨.inl hm.1, fun g1 hg1 hx => ?_⟩
      rcases List.mem_append.1 hg1 with h1 | h1
      · exact hm.2 g1 h1 hx
      · obtain rfl := List.mem_singleton.1 h1
        exact hd _ hx hm.1
    · refine ⟨.inr (.inr hg), fun g1 hg1 hx => ?_⟩
      rcases List.mem_append.1 hg1 with h1 | h1
      · have := hT _ (p.sub g1 h1 _ hx); omega
      · obtain rfl := List.mem_singleton.1 h1
        have := huT _ hx; omega
  · intro g1 hg1 x hx
    rcases List.mem_append.1 hg1 with h1 | h1
    · exact .inl (p.sub g1 h1 x hx)
    · obtain rfl := List.mem_singleton.1 h1
      exact .inr (.inl hx)
  · rw [List.pairwise_append]
    refine ⟨p.apart, by simp, fun g1 hg1 g2 hg2 x h1 h2 => ?_⟩
    obtain rfl := List.mem_singleton.1 hg2
    exact hd x h2 (p.sub g1 hg1 x h1)

/-- Fewer children: the slice cut short. -/
theorem OwnParts.take {w : World} {ks : List Node} {h : Hdr} {hs : List Hdr} (p : OwnParts w ks h hs) (j : Nat) (hj : j ≤ ks.length) : OwnParts w (ks.take j) h (hs.take j) := by
  have hl := p.kids.len
  have hv : valsAll (ks.take j) (hs.take j) = (valsAll ks hs).take (j * 4) := by
    have e : valsAll ks hs = valsAll (ks.take j) (hs.take j) ++ valsAll (ks.drop j) (hs.drop j) := by
      rw [← valsAll_append _ _ (by simp; omega), List.take_append_drop, List.take_append_drop]
    rw [e, List.take_left']
    rw [valsAll_length (by simp; omega)]; simp; omega
  refine ⟨?_, ?_, ?_, fun g hg x hx => p.sub g (List.mem_of_mem_take hg) x hx, p.apart.sublist (List.take_sublist _ _)⟩
  · rw [KidsOwn.iff]
    refine ⟨by simp; omega, fun i h1 h2 => ?_⟩
    rw [List.getElem_take, List.getElem_take]
    exact (KidsOwn.iff.1 p.kids).2 i _ _
  · have hlj : (ks.take j).length = j := by simp; omega
    rw [hlj]
    refine ⟨by rw [hv, List.length_take, p.row.1]; omega, ?_⟩
    rcases p.row.2 with ⟨h0, h1⟩ | ⟨g, cap, cur, e, h3, h4, h5, h6, h7, h8⟩
    · left
      simp only [Hdr.val, Value.slice.injEq] at h0 ⊢
      exact ⟨⟨h0.1, by omega, h0.2.2⟩, by omega⟩
    · right
      simp only [Hdr.val, Value.slice.injEq] at e
      refine ⟨g, cap, cur, by simp only [Hdr.val, Value.slice.injEq]; exact ⟨e.1, trivial, e.2.2⟩, h3, h4, by omega, h6, h7, ?_⟩
      rw [hv, ← h8, List.take_take, Nat.min_eq_left (by omega)]
  · intro b hb
    have hb' : (h.val ks.length).ownBlock = some b := by
      simp only [Hdr.val] at hb ⊢
      cases hA : h.A with
      | none => rw [hA] at hb; simp [Value.ownBlock] at hb
      | some a => rw [hA] at hb; simpa [Value.ownBlock] using hb
    exact ⟨(p.mine b hb').1, fun g hg => (p.mine b hb').2 g (List.mem_of_mem_take hg)⟩
end Go.Proofs.YtgjanglonccclaaDoor

/- More on trees of the call's own: an element stored anew, two elements exchanged. -/
namespace Go.Proofs.YtgjanglonccclaaDoor
open Go.RowKit
set_option linter.unusedVariables false
set_option linter.unusedSimpArgs false

/-- Four cells stored. -/
def set4 (W : World) (g o : Nat) (t : Node) (h : Hdr) : World :=
  (((W.setCell ⟨g, o, none⟩ (.int .u8 t.kind)).setCell ⟨g, o + 1, none⟩ (.int .i64 t.num)).setCell ⟨g, o + 2, none⟩ (.string t.name)).setCell ⟨g, o + 3, none⟩ (.slice h.A t.kids.length h.c)
theorem set4_other {W : World} {g o b : Nat} {t : Node} {h : Hdr} (hb : b ≠ g) : (set4 W g o t h).heap[b]? = W.heap[b]? := by
  unfold set4
  rw [set_other hb, set_other hb, set_other hb, set_other hb]
theorem set4_below {B : Nat} {w W : World} (hb : Below B w W) {g o : Nat} (hg : B ≤ g) (t : Node) (h : Hdr) : Below B w (set4 W g o t h) :=
  (((hb.setCell (p := ⟨g, o, none⟩) hg _).setCell (p := ⟨g, o + 1, none⟩) hg _).setCell (p := ⟨g, o + 2, none⟩) hg _).setCell (p := ⟨g, o + 3, none⟩) hg _
theorem set4_size {W : World} {g o : Nat} {t : Node} {h : Hdr} : (set4 W g o t h).heap.size = W.heap.size := by simp [set4, World.setCell]
theorem set4_drawn {W : World} {g o : Nat} {t : Node} {h : Hdr} : (set4 W g o t h).os = W.os ∧ (set4 W g o t h).tape = W.tape ∧ (set4 W g o t h).output = W.output := ⟨rfl, rfl, rfl⟩

theorem valsAll_set : ∀ {ks : List Node} {hs : List Hdr} (i : Nat) (u : Node) (hu : Hdr), ks.length = hs.length → i < ks.length →
    ((((valsAll ks hs).set (i * 4) (.int .u8 u.kind)).set (i * 4 + 1) (.int .i64 u.num)).set (i * 4 + 2) (.string u.name)).set (i * 4 + 3) (.slice hu.A u.kids.length hu.c) = valsAll (ks.set i u) (hs.set i hu)
  | [], _, _, _, _, _, h => by simp at h
  | _ :: _, [], _, _, _, h, _ => by simp at h
  | t :: ts, h :: hs, 0, u, hu, _, _ => by simp [valsAll, Node.vals]
  | t :: ts, h :: hs, i + 1, u, hu, hl, hi => by
    have ih := valsAll_set (ks := ts) (hs := hs) i u hu (by simpa using hl) (by simpa using hi)
    simp only [valsAll, List.set_cons_succ]
    rw [← ih]
    have h4 : (t.vals h).length = 4 := rfl
    rw [List.set_append_right _ _ (by omega), List.set_append_right _ _ (by omega), List.set_append_right _ _ (by omega), List.set_append_right _ _ (by omega), h4,
      show (i + 1) * 4 - 4 = i * 4 by omega, show (i + 1) * 4 + 1 - 4 = i * 4 + 1 by omega, show (i + 1) * 4 + 2 - 4 = i * 4 + 2 by omega, show (i + 1) * 4 + 3 - 4 = i * 4 + 3 by omega]

/-- An element of an owned row stored anew: the row. -/
theorem row_put {W : World} {g n cap : Nat} {ks : List Node} {hs : List Hdr} (hr : W.ownsRow 0 24 4 (.slice (some ⟨g, 0, none⟩) n cap) n (valsAll ks hs)) (hl : ks.length = hs.length) {i : Nat} (hi : i < ks.length) (u : Node) (hu : Hdr) :
    (set4 W g (i * 4) u hu).ownsRow 0 24 4 (.slice (some ⟨g, 0, none⟩) n cap) n (valsAll (ks.set i u) (hs.set i hu)) := by
  rw [← valsAll_set i u hu hl hi]
  exact ((((hr.stored (i * 4) _).1.stored (i * 4 + 1) _).1).stored (i * 4 + 2) _).1.stored (i * 4 + 3) _ |>.1

/-- Two elements exchanged. -/
def swapped {α : Type} (l : List α) (i j : Nat) (hi : i < l.length) (hj : j < l.length) : List α := (l.set i l[j]).set j l[i]
theorem swapped_length {α : Type} (l : List α) (i j : Nat) (hi : i < l.length) (hj : j < l.length) : (swapped l i j hi hj).length = l.length := by simp [swapped]
theorem swapped_at {α : Type} (l : List α) (i j : Nat) (hi : i < l.length) (hj : j < l.length) (m : Nat) (hm : m < (swapped l i j hi hj).length) :
    (swapped l i j hi hj)[m] = if m = j then l[i] else if m = i then l[j] else l[m]'(by rw [swapped_length] at hm; exact hm) := by
  have e : (swapped l i j hi hj)[m] = ((l.set i l[j]).set j l[i])[m]'(by rw [swapped_length] at hm; simpa using hm) := rfl
  rw [e, List.getElem_set]
  by_cases h1 : j = m
  · rw [if_pos h1, if_pos h1.symm]
  · rw [if_neg h1, if_neg (Ne.symm h1), List.getElem_set]
    by_cases h2 : i = m
    · rw [if_pos h2, if_pos h2.symm]
    · rw [if_neg h2, if_neg (Ne.symm h2)]
theorem swapped_perm {α : Type} (l : List α) (i j : Nat) (hi : i < l.length) (hj : j < l.length) : (swapped l i j hi hj).Perm l := List.set_set_perm hi hj

theorem OwnParts.swap {W : World} {ks : List Node} {h : Hdr} {hs : List Hdr} (p : OwnParts W ks h hs) {g : Nat} (hA : h.A = some ⟨g, 0, none⟩) (i j : Nat) (hi : i < ks.length) (hj : j < ks.length) (hi' : i < hs.length) (hj' : j < hs.length) :
    OwnParts (set4 (set4 W g (i * 4) ks[j] hs[j]) g (j * 4) ks[i] hs[i]) (swapped ks i j hi hj) h (swapped hs i j hi' hj') := by
  have hpm := swapped_perm hs i j hi' hj'
  have hv : h.val ks.length = .slice (some ⟨g, 0, none⟩) ks.length h.c := by simp [Hdr.val, hA]
  have hlen := p.kids.len
  have hother : ∀ x, x ≠ g → (set4 (set4 W g (i * 4) ks[j] hs[j]) g (j * 4) ks[i] hs[i]).heap[x]? = W.heap[x]? := fun x hx => by rw [set4_other hx, set4_other hx]
  have hm := p.mine g (by rw [hv]; rfl)
  refine ⟨?_, ?_, ?_, fun g1 h1 => p.sub g1 (hpm.mem_iff.1 h1), ?_⟩
  · rw [KidsOwn.iff]
    refine ⟨by rw [swapped_length, swapped_length, hlen], fun m h1 h2 => ?_⟩
    rw [swapped_at, swapped_at]
    have key : ∀ q (a1 : q < ks.length) (a2 : q < hs.length), ks[q].Own (set4 (set4 W g (i * 4) ks[j] hs[j]) g (j * 4) ks[i] hs[i]) hs[q] := fun q a1 a2 =>
      Node.Own.move _ (fun x hx _ => hother x (fun e => hm.2 _ (List.getElem_mem a2) (e ▸ hx))) ((KidsOwn.iff.1 p.kids).2 q a1 a2)
    split
    · exact key i hi hi'
    · split
      · exact key j hj hj'
      · rw [swapped_length] at h1 h2
        exact key m h1 h2
  · have hr := p.row
    rw [hv] at hr
    have h1 := row_put hr hlen hi ks[j] hs[j]
    have h2 := row_put (i := j) h1 (by simp [hlen]) (by simpa using hj) ks[i] hs[i]
    rw [swapped_length, hv]
    exact h2
  · intro b hb
    rw [swapped_length] at hb
    exact ⟨(p.mine b hb).1, fun g1 h1 => (p.mine b hb).2 g1 (hpm.mem_iff.1 h1)⟩
  · exact (hpm.pairwise_iff (fun {x y} hxy z h1 h2 => hxy z h2 h1)).2 p.apart

/-- The first i and the last i elements have been exchanged. -/
def RevTo {α : Type} (l cur : List α) (i : Nat) : Prop := cur.length = l.length ∧ ∀ m (h1 : m < cur.length) (h2 : m < l.length), cur[m] = if m < i ∨ l.length ≤ m + i then l[l.length - 1 - m]'(by omega) else l[m]
theorem RevTo.zero {α : Type} (l : List α) : RevTo l l 0 := ⟨rfl, fun m h1 h2 => by rw [if_neg (by omega)]⟩
theorem RevTo.step {α : Type} {l cur : List α} {i : Nat} (h : RevTo l cur i) (hi : i < l.length - 1 - i) (h1 : i < cur.length) (h2 : l.length - 1 - i < cur.length) : RevTo l (swapped cur i (l.length - 1 - i) h1 h2) (i + 1) := by
  refine ⟨by rw [swapped_length, h.1], fun m g1 g2 => ?_⟩
  have hl := h.1
  rw [swapped_at]
  split
  · rename_i e
    subst e
    rw [h.2 i h1 (by omega), if_neg (by omega), if_pos (by omega)]
    congr 1; omega
  · split
    · rename_i e1 e
      subst e
      rw [h.2 _ h2 (by omega), if_neg (by omega), if_pos (by omega)]
    · rw [h.2 m (by omega) g2]
      by_cases hc : m < i ∨ l.length ≤ m + i
      · rw [if_pos hc, if_pos (by omega)]
      · rw [if_neg hc, if_neg (by omega)]
theorem RevTo.done {α : Type} {l cur : List α} {i : Nat} (h : RevTo l cur i) (hi : ¬ i < l.length - 1 - i) : cur = l.reverse := by
  apply List.ext_getElem
  · rw [h.1]; simp
  · intro m h1 h2
    have hl := h.1
    rw [h.2 m h1 (by omega), List.getElem_reverse]
    by_cases hc : m < i ∨ l.length ≤ m + i
    · rw [if_pos hc]
    · rw [if_neg hc]
      congr 1; omega

/-- A node stored into the four cells of a block: what is read back. -/
theorem res_cells {W : World} {R : Nat} {v0 v1 v2 v3 u0 u1 u2 u3 : Value} {T : TypeId} (h : W.heap[R]? = some (.cells #[v0, v1, v2, v3] T)) :
    ((((W.setCell ⟨R, 0, none⟩ u0).setCell ⟨R, 1, none⟩ u1).setCell ⟨R, 2, none⟩ u2).setCell ⟨R, 3, none⟩ u3).cell? ⟨R, 0, none⟩ = some u0 ∧ ((((W.setCell ⟨R, 0, none⟩ u0).setCell ⟨R, 1, none⟩ u1).setCell ⟨R, 2, none⟩ u2).setCell ⟨R, 3, none⟩ u3).cell? ⟨R, 1, none⟩ = some u1 ∧
    ((((W.setCell ⟨R, 0, none⟩ u0).setCell ⟨R, 1, none⟩ u1).setCell ⟨R, 2, none⟩ u2).setCell ⟨R, 3, none⟩ u3).cell? ⟨R, 2, none⟩ = some u2 ∧ ((((W.setCell ⟨R, 0, none⟩ u0).setCell ⟨R, 1, none⟩ u1).setCell ⟨R, 2, none⟩ u2).setCell ⟨R, 3, none⟩ u3).cell? ⟨R, 3, none⟩ = some u3 :=
  four_cells (by simpa using set_blk (set_blk (set_blk (set_blk h 0 u0) 1 u1) 2 u2) 3 u3)
theorem res_other {W : World} {R b : Nat} {u0 u1 u2 u3 : Value} (hb : b ≠ R) : ((((W.setCell ⟨R, 0, none⟩ u0).setCell ⟨R, 1, none⟩ u1).setCell ⟨R, 2, none⟩ u2).setCell ⟨R, 3, none⟩ u3).heap[b]? = W.heap[b]? := by
  rw [set_other hb, set_other hb, set_other hb, set_other hb]
theorem res_below {B : Nat} {w W : World} (hb : Below B w W) {R : Nat} (hR : B ≤ R) (u0 u1 u2 u3 : Value) : Below B w ((((W.setCell ⟨R, 0, none⟩ u0).setCell ⟨R, 1, none⟩ u1).setCell ⟨R, 2, none⟩ u2).setCell ⟨R, 3, none⟩ u3) :=
  (((hb.setCell (p := ⟨R, 0, none⟩) hR _).setCell (p := ⟨R, 1, none⟩) hR _).setCell (p := ⟨R, 2, none⟩) hR _).setCell (p := ⟨R, 3, none⟩) hR _
theorem res_own {W : World} {R : Nat} {u0 u1 u2 u3 : Value} {t : Node} {h : Hdr} (ho : t.Own W h) (hF : ¬ h.F R) : t.Own ((((W.setCell ⟨R, 0, none⟩ u0).setCell ⟨R, 1, none⟩ u1).setCell ⟨R, 2, none⟩ u2).setCell ⟨R, 3, none⟩ u3) h :=
  Node.Own.move t (fun x hx _ => res_other (fun e => hF (e ▸ hx))) ho
end Go.Proofs.YtgjanglonccclaaDoor

/- Still more on trees of the call's own: an element replaced by another tree. -/
namespace Go.Proofs.YtgjanglonccclaaDoor
open Go.RowKit
set_option linter.unusedVariables false
set_option linter.unusedSimpArgs false

theorem OwnParts.mono {w : World} {ks : List Node} {h : Hdr} {hs : List Hdr} (p : OwnParts w ks h hs) {F : Nat → Prop} (hF : ∀ x, h.F x → F x) : OwnParts w ks { h with F := F } hs :=
  ⟨p.kids, p.row, fun b hb => ⟨hF b (p.mine b hb).1, (p.mine b hb).2⟩, fun g hg x hx => hF x (p.sub g hg x hx), p.apart⟩
theorem OwnParts.tight {w : World} {ks : List Node} {h : Hdr} {hs : List Hdr} (p : OwnParts w ks h hs) : OwnParts w ks (h.tight w) (hs.map (Hdr.tight w)) := by
  refine ⟨?_, ?_, ?_, ?_, ?_⟩
  · rw [KidsOwn.iff]
    refine ⟨by simp [p.kids.len], fun j g1 g2 => ?_⟩
    rw [List.getElem_map]
    exact Node.Own.tight _ ((KidsOwn.iff.1 p.kids).2 j g1 (by simpa using g2))
  · rw [valsAll_tight]; exact p.row
  · intro b hb
    refine ⟨⟨(p.mine b hb).1, row_lt p.row hb⟩, fun g hg hF => ?_⟩
    obtain ⟨g0, hg0, rfl⟩ := List.mem_map.1 hg
    exact (p.mine b hb).2 g0 hg0 hF.1
  · intro g hg x hx
    obtain ⟨g0, hg0, rfl⟩ := List.mem_map.1 hg
    exact ⟨p.sub g0 hg0 x hx.1, hx.2⟩
  · rw [List.pairwise_map]
    exact p.apart.imp fun hd x h1 h2 => hd x h1.1 h2.1
/-- The parts stand where their blocks stand. -/
theorem OwnParts.move {w w' : World} {ks : List Node} {h : Hdr} {hs : List Hdr} (p : OwnParts w ks h hs) (hb : ∀ x, h.F x → x < w.heap.size → w'.heap[x]? = w.heap[x]?) : OwnParts w' ks h hs :=
  ⟨KidsOwn.iff.2 ⟨p.kids.len, fun j g1 g2 => Node.Own.move _ (fun x hx hlt => hb x (p.sub _ (List.getElem_mem g2) x hx) hlt) ((KidsOwn.iff.1 p.kids).2 j g1 g2)⟩, row_of_block p.row fun g hg => hb g (p.mine g hg).1 (row_lt p.row hg), p.mine, p.sub, p.apart⟩

/-- Element j replaced by another tree of the call's own. -/
theorem OwnParts.put {W : World} {ks : List Node} {h : Hdr} {hs : List Hdr} (p : OwnParts W ks h hs) {g : Nat} (hA : h.A = some ⟨g, 0, none⟩) (j : Nat) (hj : j < ks.length) (u : Node) (hu : Hdr) (huo : u.Own W hu) (hd : ∀ x, hu.F x → ¬ h.F x) :
    OwnParts (set4 W g (j * 4) u hu) (ks.set j u) { h with F := fun x => h.F x ∨ hu.F x } (hs.set j hu) := by
  have hlen := p.kids.len
  have hv : h.val ks.length = .slice (some ⟨g, 0, none⟩) ks.length h.c := by simp [Hdr.val, hA]
  have hm := p.mine g (by rw [hv]; rfl)
  have hgu : ∀ x, hu.F x → x ≠ g := fun x hx e => hd x hx (e ▸ hm.1)
  refine ⟨?_, ?_, ?_, ?_, ?_⟩
  · rw [KidsOwn.iff]
    refine ⟨by simp [hlen], fun m h1 h2 => ?_⟩
    rw [List.getElem_set, List.getElem_set]
    split
    · exact Node.Own.move _ (fun x hx _ => set4_other (hgu x hx)) huo
    · have h1' : m < ks.length := by simpa using h1
      have h2' : m < hs.length := by simpa using h2
      exact Node.Own.move _ (fun x hx _ => set4_other (fun e => hm.2 _ (List.getElem_mem h2') (e ▸ hx))) ((KidsOwn.iff.1 p.kids).2 m h1' h2')
  · have hr := p.row
    rw [hv] at hr
    have h1 := row_put hr hlen hj u hu
    have hv2 : Hdr.val { h with F := fun x => h.F x ∨ hu.F x } (ks.set j u).length = .slice (some ⟨g, 0, none⟩) ks.length h.c := by simp [Hdr.val, hA]
    rw [hv2, List.length_set]
    exact h1
  · intro b hb
    have hb' : (h.val ks.length).ownBlock = some b := by simpa [Hdr.val] using hb
    obtain rfl : b = g := by rw [hv] at hb'; simpa [Value.ownBlock] using hb'.symm
    refine ⟨.inl hm.1, fun g1 h1 => ?_⟩
    rcases List.mem_or_eq_of_mem_set h1 with h1 | rfl
    · exact hm.2 g1 h1
    · exact fun hx => hgu _ hx rfl
  · intro g1 h1 x hx
    rcases List.mem_or_eq_of_mem_set h1 with h1 | rfl
    · exact .inl (p.sub g1 h1 x hx)
    · exact .inr hx
  · rw [List.pairwise_iff_getElem]
    intro i k hi hk hik x h1 h2
    rw [List.getElem_set] at h1 h2
    have hi' : i < hs.length := by simpa using hi
    have hk' : k < hs.length := by simpa using hk
    split at h1
    · split at h2
      · omega
      · exact hd x h1 (p.sub _ (List.getElem_mem hk') x h2)
    · split at h2
      · exact hd x h2 (p.sub _ (List.getElem_mem hi') x h1)
      · exact List.pairwise_iff_getElem.1 p.apart i k hi' hk' hik x h1 h2
end Go.Proofs.YtgjanglonccclaaDoor

/- Contract of ast.Clone: the same tree in new memory. -/
namespace Go.Proofs.YtgjanglonccclaaDoor
open Go.RowKit
set_option linter.unusedVariables false
set_option linter.unusedSimpArgs false

theorem infoNode : (Tryd.prog.info? 24).map (fun i => (i.zero, i.size, i.bytes)) = some (some (.agg #[(.int .u8 0), (.int .i64 0), (.string ⟨#[]⟩), (.slice none 0 0)]), 4, 56) := by kernel_rfl

/-- While Clone goes through the children. -/
structure CloneInv (w W : World) (t : Node) (j : Nat) (A : Option Addr) (c : Nat) : Prop where
  below : Below w.heap.size w W
  size : w.heap.size + 2 ≤ W.heap.size
  box : W.heap[w.heap.size]? = some (.cells #[.int .u8 t.kind, .int .i64 t.num, .string t.name, .slice A j c] 24)
  res : W.heap[w.heap.size + 1]? = some (.cells #[.int .u8 0, .int .i64 0, .string ⟨#[]⟩, .slice none 0 0] 24)
  own : (⟨t.kind, t.num, t.name, t.kids.take j⟩ : Node).Own W ⟨A, c, fun x => w.heap.size + 2 ≤ x⟩

theorem CloneInv.step {w wr w1 w2 : World} {t : Node} {j : Nat} {A' : Option Addr} {c' : Nat} (CI : CloneInv w wr t j A' c') (hlt : j < t.kids.length) (hl : (t.kids.length : Int) ≤ 2513169434916) {hs : List Hdr}
    (P : OwnParts wr (t.kids.take j) (Hdr.tight wr ⟨A', c', fun x => w.heap.size + 2 ≤ x⟩) hs) (hf : t.Fits) {A2 : Option Addr} {c2 g cap : Nat} (hbw : Below wr.heap.size wr w1)
    (ho : t.kids[j].Own w1 ⟨A2, c2, fun x => wr.heap.size + 1 ≤ x⟩)
    (hrow : w2.ownsRow 0 24 4 (.slice (some ⟨g, 0, none⟩) (j + 1) cap) (j + 1) (valsAll (t.kids.take j) hs ++ [.int .u8 t.kids[j].kind, .int .i64 t.kids[j].num, .string t.kids[j].name, .slice A2 t.kids[j].kids.length c2]))
    (hgr : (w1.alloc (.cells #[.int .u8 t.kids[j].kind, .int .i64 t.kids[j].num, .string t.kids[j].name, .slice A2 t.kids[j].kids.length c2] 24)).grownBy w2 (Value.slice A' j c').ownBlock)
    (hat : (Value.slice A' j c').ownBlock = some g ∨ g = w1.heap.size + 1) :
    CloneInv w (w2.setCell ⟨w.heap.size, 3, none⟩ (.slice (some ⟨g, 0, none⟩) (j + 1) cap)) t (j + 1) (some ⟨g, 0, none⟩) cap := by
  have hsz := CI.size
  have hsz1 := hbw.size
  have hlj : (t.kids.take j).length = j := by rw [List.length_take]; omega
  obtain ⟨W, hW⟩ : ∃ W, w1.alloc (.cells #[.int .u8 t.kids[j].kind, .int .i64 t.kids[j].num, .string t.kids[j].name, .slice A2 t.kids[j].kids.length c2] 24) = W := ⟨_, rfl⟩
  have hWs : W.heap.size = w1.heap.size + 1 := by rw [← hW]; simp
  have hW1 : Below w1.heap.size w1 W := by rw [← hW]; exact ext_alloc (Below.refl _ _) _
  rw [hW] at hgr
  have hv : ((Hdr.tight wr ⟨A', c', fun x => w.heap.size + 2 ≤ x⟩).val (t.kids.take j).length) = .slice A' j c' := by rw [hlj]; rfl
  have NE : ∀ x, x < w.heap.size + 2 → some x ≠ (Value.slice A' j c').ownBlock := fun x hx h => by
    have := (P.mine x (by rw [hv]; exact h.symm)).1.1
    simp at this; omega
  have hgs := hgr.size
  have hown2 := Node.Own.snoc (w := W) (w1 := w2) (k := t.kind) (n := t.num) (s := t.name) (g := g) (cap := cap) (u := t.kids[j]) (hu := Hdr.tight W ⟨A2, c2, fun x => wr.heap.size + 1 ≤ x⟩)
    ⟨hf.kind0, hf.kind1, hf.num0, hf.num1, hf.name⟩ (P.below (ext_trans hbw hW1)) (fun x hx => by have := hx.2; omega) (Node.Own.tight _ (ho.below hW1)) (fun x hx hy => by have h1 : wr.heap.size + 1 ≤ x := hx.1; have h2 : x < wr.heap.size := hy.2; omega) (fun x hx => hx.2)
    (by rw [hlj]; exact hrow) (by rw [hv]; exact hgr) (by rw [hv, hWs]; exact hat) (by rw [hlj]; omega)
  have hbox2 : w2.heap[w.heap.size]? = some (.cells #[.int .u8 t.kind, .int .i64 t.num, .string t.name, .slice A' j c'] 24) := by
    rw [hgr.block _ (by omega) (NE _ (by omega)), hW1.block _ (by omega), hbw.block _ (by omega)]; exact CI.box
  refine ⟨?_, ?_, ?_, ?_, ?_⟩
  · refine Below.setCell (p := ⟨w.heap.size, 3, none⟩) ?_ (Nat.le_refl _) _
    refine (((CI.below.trans (hbw.mono (by omega))).trans (hW1.mono (by omega))).grown hgr (by omega) (fun k hk => ?_))
    have := NE k
    rcases Nat.lt_or_ge k (w.heap.size + 2) with h | h
    · exact absurd hk.symm (NE k h)
    · omega
  · simp only [World.setCell, Array.size_modify]; omega
  · rw [set_blk hbox2]; simp
  · rw [Below.heap_setCell _ _ _ _ (by simp), hgr.block _ (by omega) (NE _ (by omega)), hW1.block _ (by omega), hbw.block _ (by omega)]; exact CI.res
  · rw [List.take_succ_eq_append_getElem hlt]
    refine Node.Own.move (w := w2) _ (fun x hx _ => set_other (by have : w.heap.size + 2 ≤ x := hx; omega)) (Node.Own.mono hown2 (fun x hx => ?_))
    rcases hx with hx | hx | hx
    · exact hx.1
    · have : wr.heap.size + 1 ≤ x := hx.1; omega
    · omega

/-- A new tree as a result. -/
def Fresh (w : World) (t : Node) (e : Ending) (w' : World) : Prop :=
  ∃ A c, e = .returned (.agg #[.int .u8 t.kind, .int .i64 t.num, .string t.name, .slice A t.kids.length c]) ∧ Below w.heap.size w w' ∧ t.Own w' ⟨A, c, fun x => w.heap.size ≤ x⟩

set_option maxHeartbeats 4000000 in
set_option maxRecDepth 100000 in
theorem clone_any (t : Node) : ∀ (A : Option Addr) (c : Nat) (w : World) (ok : Nat → Prop), t.In w ok A c →
    Calls Tryd.prog 21 #[.agg #[.int .u8 t.kind, .int .i64 t.num, .string t.name, .slice A t.kids.length c]] w (Fresh w t) := by
  induction t using Node.ind with
  | h t ih =>
  intro A c w ok h
  have H := Hd.mk h
  have IH := Hd.mk ih
  have hl := h.lenZ
  clear h ih
  obtain ⟨i0, hi, hz0, hz1, hz2⟩ := info_parts infoNode
  go_enter Tryd.func21, Tryd.ntmps21
  go_wp2_with fail
  go_loopw [5, 11] (fun v5 v11 W => ∃ (j : Nat) (A' : Option Addr) (c' : Nat), j ≤ t.kids.length ∧ v11 = .int .i64 j ∧ CloneInv w W t j A' c') (fun _ v11 _ => t.kids.length - (intOf v11).toNat)
  case atStart =>
    refine ⟨0, none, 0, Nat.zero_le _, rfl, ext_alloc (ext_alloc (Below.refl _ _) _) _, by simp, ?_, ?_, ?_⟩
    · rw [(Go.MapKept.heap_alloc _ _).2 _ (by simp)]; exact (Go.MapKept.heap_alloc w _).1
    · have := (Go.MapKept.heap_alloc (w.alloc (.cells #[.int .u8 t.kind, .int .i64 t.num, .string t.name, .slice none 0 0] 24)) (.cells #[.int .u8 0, .int .i64 0, .string ⟨#[]⟩, .slice none 0 0] 24)).1
      rw [World.size_alloc] at this
      exact this
    · have hf := H.out.fits
      exact Node.Own.leaf (t := ⟨t.kind, t.num, t.name, t.kids.take 0⟩) ⟨hf.kind0, hf.kind1, hf.num0, hf.num1, hf.name⟩ _ rfl
  case round =>
    obtain ⟨j, A', c', hj, rfl, CI⟩ := hrel
    by_cases hlt : j < t.kids.length
    · obtain ⟨b, o, A1, c1, rfl, e0, e1, e2, e3, h4⟩ := (H.out.below CI.below).at_ j hlt
      have IH1 := Hd.mk (IH.out t.kids[j] (List.getElem_mem _))
      obtain ⟨x0, x1, x2, x3⟩ := four_cells CI.box
      have x4 := blk_free CI.box 3
      have hsz : w.heap.size + 2 ≤ wr.heap.size := CI.size
      have hsz1 : w.heap.size < wr.heap.size := by omega
      obtain ⟨hfit, hlen, hs, P⟩ := Node.Own_eq.1 (Node.Own.tight _ CI.own)
      have hlj : (t.kids.take j).length = j := by rw [List.length_take]; omega
      have PR : ∀ W, Below wr.heap.size wr W → W.ownsRow 0 24 4 (.slice A' j c') j (valsAll (t.kids.take j) hs) := fun W hb => by
        have := (P.below hb).row
        rw [hlj] at this
        exact this
      have PM : ∀ b, (Value.slice A' j c').ownBlock = some b → w.heap.size + 2 ≤ b ∧ b < wr.heap.size := fun b hb => by
        have := P.mine b (by rw [hlj]; exact hb)
        exact this.1
      have NE := Hd.mk (show ∀ x, (x < w.heap.size + 2 ∨ wr.heap.size ≤ x) → some x ≠ (Value.slice A' j c').ownBlock from fun x hx h => by have := PM x h.symm; omega)
      have hlj2 := Hd.mk hlj
      have P2 := Hd.mk P
      have hf2 := Hd.mk hfit
      have hl2 := Hd.mk hlen
      have PR2 := Hd.mk PR
      have PM2 := Hd.mk PM
      have CI2 := Hd.mk CI
      clear hlj P hfit hlen CI PR PM
      go_wp2_with fail
      go_region_law
        (first
          | (refine step_append_lies _ (by rfl) _ _ _ (by rfl) 0 24 i0 _ 4 56 Tryd.underlying22 hi hz0 hz1 hz2 rfl (by omega) (.slice A' j c') j (valsAll (t.kids.take j) hs) (by rfl) hrow ⟨w1.heap.size, 0, none⟩ 1 1 [.int .u8 t.kids[j].kind, .int .i64 t.kids[j].num, .string t.kids[j].name, .slice A2 t.kids[j].kids.length c2] (by rfl) (by rfl) (World.news_of_block (heap_alloc_new w1 _)) (by simp [Value.oneCell']) (by omega) (by simp [maxLen]; omega) (by omega) (by omega) (w1.heap.size + 1) (by simp) ?_; intro g cap w2 hrow2 hgr hat hlt2; have u0 := cell_after hgr y0 (NE.out _ (by omega)); have u1 := cell_after hgr z0 (NE.out _ (by omega)); have u2 := cell_after hgr z1 (NE.out _ (by omega)); have u3 := cell_after hgr z2 (NE.out _ (by omega)); have u4 := cell_after hgr z3 (NE.out _ (by omega)); have u5 := Hd.mk (block_after hgr ((hbw.block _ (by omega)).trans CI2.out.box) (NE.out _ (by omega))); have u6 := blk_free u5.out 3)
          | (go_simp; go_at_call 21; refine (IH1.out A1 c1 _ ok (h4.below ((ext_alloc (Below.refl _ _) _).drew))).mono ?_; rintro e w1 ⟨A2, c2, rfl, hb, ho⟩; have hbw : Below wr.heap.size wr w1 := ext_trans ((ext_alloc (Below.refl _ _) _).drew) hb; have hsz2 : w.heap.size < w1.heap.size := (by have := hbw.size; omega); have y0 := hbw.cell (p := ⟨w.heap.size, 3, none⟩) (by simp; omega); rw [x3] at y0; obtain ⟨z0, z1, z2, z3⟩ := box_cells (ext_trans ((Below.refl _ _).drew) hb); have hrow := PR2.out _ (ext_alloc hbw (.cells #[.int .u8 t.kids[j].kind, .int .i64 t.kids[j].num, .string t.kids[j].name, .slice A2 t.kids[j].kids.length c2] 24))))
      all_goals
        go_wp2_with fail
        go_roundw
        case rel => exact ⟨j + 1, _, _, hlt, by go_num, CI2.out.step hlt hl P2.out H.out.fits hbw (by simpa using ho) hrow2 hgr hat⟩
        case measure => simp [intOf]; omega
    · have : j = t.kids.length := by omega
      subst this
      obtain ⟨x0, x1, x2, x3⟩ := four_cells CI.box
      obtain ⟨y0, y1, y2, y3⟩ := four_cells CI.res
      have f0 := blk_free CI.res 0
      have f1 := blk_free CI.res 1
      have f2 := blk_free CI.res 2
      have f3 := blk_free CI.res 3
      have CI2 := Hd.mk CI
      clear CI
      go_wp2_with fail
      have hb := CI2.out.res
      have hs := CI2.out.size
      have hown := CI2.out.own
      have hbel := CI2.out.below
      clear CI2 IH
      refine bodyPost_ret (v := .agg #[.int .u8 t.kind, .int .i64 t.num, .string t.name, .slice A' t.kids.length c']) ?_ rfl ⟨A', c', rfl, ?_, ?_⟩
      · have e := set_blk (set_blk (set_blk (set_blk hb 0 (.int .u8 t.kind)) 1 (.int .i64 t.num)) 2 (.string t.name)) 3 (.slice A' t.kids.length c')
        have hc := four_cells (by simpa using e)
        simp [results, Tryd.results21, go_sem, hc]
      · refine (((hbel.setCell ?_ _).setCell ?_ _).setCell ?_ _).setCell ?_ _ <;> simp
      · rw [List.take_length] at hown
        have h1 : t.Own wr ⟨A', c', fun x => w.heap.size + 2 ≤ x⟩ := by rw [Node.eta] at hown; exact hown
        refine Node.Own.mono (Node.Own.move _ (fun x hx _ => ?_) h1) (fun x hx => by have : w.heap.size + 2 ≤ x := hx; omega)
        have : w.heap.size + 2 ≤ x := hx
        rw [set_other (by omega), set_other (by omega), set_other (by omega), set_other (by omega)]
end Go.Proofs.YtgjanglonccclaaDoor

/- A function with one boxed node and a node as its result: its two blocks. -/
namespace Go.Proofs.YtgjanglonccclaaDoor
open Go.RowKit
set_option linter.unusedVariables false
set_option linter.unusedSimpArgs false

/-- The block of the parameter and the block of the result, as long as the result has not been written. -/
structure Boxes (w W : World) (t : Node) (A : Option Addr) (c : Nat) : Prop where
  below : Below w.heap.size w W
  size : w.heap.size + 2 ≤ W.heap.size
  box : W.heap[w.heap.size]? = some (.cells #[.int .u8 t.kind, .int .i64 t.num, .string t.name, .slice A t.kids.length c] 24)
  res : W.heap[w.heap.size + 1]? = some (.cells #[.int .u8 0, .int .i64 0, .string ⟨#[]⟩, .slice none 0 0] 24)
theorem Boxes.start (w : World) (t : Node) (A : Option Addr) (c : Nat) : Boxes w ((w.alloc (.cells #[.int .u8 t.kind, .int .i64 t.num, .string t.name, .slice A t.kids.length c] 24)).alloc (.cells #[.int .u8 0, .int .i64 0, .string ⟨#[]⟩, .slice none 0 0] 24)) t A c := by
  refine ⟨ext_alloc (ext_alloc (Below.refl _ _) _) _, by simp, ?_, ?_⟩
  · rw [(Go.MapKept.heap_alloc _ _).2 _ (by simp)]; exact (Go.MapKept.heap_alloc w _).1
  · have := (Go.MapKept.heap_alloc (w.alloc (.cells #[.int .u8 t.kind, .int .i64 t.num, .string t.name, .slice A t.kids.length c] 24)) (.cells #[.int .u8 0, .int .i64 0, .string ⟨#[]⟩, .slice none 0 0] 24)).1
    rw [World.size_alloc] at this
    exact this
theorem Boxes.next {w W W2 : World} {t : Node} {A : Option Addr} {c : Nat} (B : Boxes w W t A c) (h : Below W.heap.size W W2) : Boxes w W2 t A c :=
  ⟨ext_trans B.below h, Nat.le_trans B.size h.size, by rw [h.block _ (by have := B.size; omega)]; exact B.box, by rw [h.block _ (by have := B.size; omega)]; exact B.res⟩
/-- What the walk wants of them. -/
theorem Boxes.facts {w W : World} {t : Node} {A : Option Addr} {c : Nat} (B : Boxes w W t A c) :
    (W.cell? ⟨w.heap.size, 0, none⟩ = some (.int .u8 t.kind) ∧ W.cell? ⟨w.heap.size, 1, none⟩ = some (.int .i64 t.num) ∧ W.cell? ⟨w.heap.size, 2, none⟩ = some (.string t.name) ∧ W.cell? ⟨w.heap.size, 3, none⟩ = some (.slice A t.kids.length c)) ∧
    (W.cell? ⟨w.heap.size + 1, 0, none⟩ = some (.int .u8 0) ∧ W.cell? ⟨w.heap.size + 1, 1, none⟩ = some (.int .i64 0) ∧ W.cell? ⟨w.heap.size + 1, 2, none⟩ = some (.string ⟨#[]⟩) ∧ W.cell? ⟨w.heap.size + 1, 3, none⟩ = some (.slice none 0 0)) ∧
    (W.frozen? ⟨w.heap.size + 1, 0, none⟩ = false ∧ W.frozen? ⟨w.heap.size + 1, 1, none⟩ = false ∧ W.frozen? ⟨w.heap.size + 1, 2, none⟩ = false ∧ W.frozen? ⟨w.heap.size + 1, 3, none⟩ = false) ∧ w.heap.size + 1 < W.heap.size :=
  ⟨four_cells B.box, four_cells B.res, ⟨blk_free B.res 0, blk_free B.res 1, blk_free B.res 2, blk_free B.res 3⟩, B.size⟩
/-- The result written and handed back: the world. -/
theorem Boxes.out {w W W2 : World} {t u : Node} {A A1 : Option Addr} {c c1 : Nat} (B : Boxes w W t A c) (h : Below W.heap.size W W2) (ho : u.Own W2 ⟨A1, c1, fun x => W.heap.size ≤ x⟩) (v0 v1 v2 v3 : Value) :
    Below w.heap.size w ((((W2.setCell ⟨w.heap.size + 1, 0, none⟩ v0).setCell ⟨w.heap.size + 1, 1, none⟩ v1).setCell ⟨w.heap.size + 1, 2, none⟩ v2).setCell ⟨w.heap.size + 1, 3, none⟩ v3) ∧
    u.Own ((((W2.setCell ⟨w.heap.size + 1, 0, none⟩ v0).setCell ⟨w.heap.size + 1, 1, none⟩ v1).setCell ⟨w.heap.size + 1, 2, none⟩ v2).setCell ⟨w.heap.size + 1, 3, none⟩ v3) ⟨A1, c1, fun x => w.heap.size ≤ x⟩ := by
  have hs := B.size
  exact ⟨res_below (ext_trans B.below h) (by omega) _ _ _ _, Node.Own.mono (res_own ho (fun h => by have : W.heap.size ≤ w.heap.size + 1 := h; omega)) (fun x hx => by have : W.heap.size ≤ x := hx; omega)⟩
end Go.Proofs.YtgjanglonccclaaDoor

/- Contract of inverter.inverse. -/
namespace Go.Proofs.YtgjanglonccclaaDoor
open Go.RowKit
set_option linter.unusedVariables false
set_option linter.unusedSimpArgs false

theorem pair_cells {w : World} {B : Nat} (h : w.heap[B]? = some (.cells #[.int .u8 40, .int .u8 41, .int .u8 44, .int .u8 45, .int .u8 46, .int .u8 47, .int .u8 48, .int .u8 49, .int .u8 50, .int .u8 51] 110)) (i : Nat) (hi : i < 5) :
    w.cell? ⟨B, i * 2, none⟩ = some (.int .u8 (pairAt i)) ∧ w.cell? ⟨B, i * 2 + 1, none⟩ = some (.int .u8 (pairAt i + 1)) := by
  have : i = 0 ∨ i = 1 ∨ i = 2 ∨ i = 3 ∨ i = 4 := by omega
  rcases this with rfl | rfl | rfl | rfl | rfl <;> exact ⟨cell_blk h _, cell_blk h _⟩

theorem inverse_any (k : Int) (w : World) : Calls Tryd.prog 84 #[.int .u8 k] w fun e w' => e = .returned (.int .u8 (invKind k)) ∧ Below w.heap.size w w' := by
  go_enter Tryd.func84, Tryd.ntmps84
  go_wp2_with fail
  go_loopw [5, 14] (fun v5 v14 W => ∃ j : Nat, j ≤ 5 ∧ v14 = .int .i64 j ∧ Hd (invFrom k (5 - j) j = invKind k) ∧ Hd (W.heap[w.heap.size]? = some (.cells #[.int .u8 40, .int .u8 41, .int .u8 44, .int .u8 45, .int .u8 46, .int .u8 47, .int .u8 48, .int .u8 49, .int .u8 50, .int .u8 51] 110)) ∧ Below w.heap.size w W) (fun _ v14 _ => 5 - (intOf v14).toNat)
  case atStart =>
    refine ⟨0, Nat.zero_le _, rfl, ⟨rfl⟩, ⟨(Go.MapKept.heap_alloc w _).1⟩, ext_alloc (Below.refl _ _) _⟩
  case round =>
    obtain ⟨j, hj, rfl, HS, HW, HB⟩ := hrel
    by_cases hlt : j < 5
    · obtain ⟨e0, e1⟩ := pair_cells HW.out j hlt
      have HF : Hd (invKind k = if k == pairAt j then pairAt j + 1 else if k == pairAt j + 1 then pairAt j else invFrom k (5 - (j + 1)) (j + 1)) := ⟨by
        rw [← HS.out, show 5 - j = (5 - (j + 1)) + 1 by omega]; rfl⟩
      cases a0 : (k == pairAt j)
      · cases a1 : (k == pairAt j + 1)
        · go_wp2_with fail
          go_roundw
          case rel =>
            refine ⟨j + 1, hlt, by go_num, ⟨by rw [HF.out, a0, a1]; simp⟩, ⟨?_⟩, ext_alloc HB _⟩
            rw [(Go.MapKept.heap_alloc _ _).2 _ (Array.getElem?_eq_some_iff.1 HW.out).1]; exact HW.out
          case measure => simp [intOf]; omega
        · go_wp2_with fail
          go_ret
          exact ⟨ret_int (by rw [HF.out, a0, a1]; simp), ext_alloc HB _⟩
      · go_wp2_with fail
        go_ret
        exact ⟨ret_int (by rw [HF.out, a0]; simp), ext_alloc HB _⟩
    · have : j = 5 := by omega
      subst this
      go_wp2_with fail
      go_ret
      exact ⟨ret_int (by rw [← HS.out]; rfl), HB⟩
end Go.Proofs.YtgjanglonccclaaDoor

/- Contract of inverter.invert: a tree of the call's own is inverted in place. -/
namespace Go.Proofs.YtgjanglonccclaaDoor
open Go.RowKit
set_option linter.unusedVariables false
set_option linter.unusedSimpArgs false

/-- What a call did to memory that turned one cell, and the blocks F besides. -/
structure Turned (w w' : World) (b o : Nat) (v : Value) (F : Nat → Prop) : Prop where
  os : w'.os = w.os
  tape : w'.tape = w.tape
  output : w'.output = w.output
  size : w.heap.size ≤ w'.heap.size
  block : ∀ x, x < w.heap.size → ¬ F x → w'.heap[x]? = (w.setCell ⟨b, o, none⟩ v).heap[x]?

def InvRuns (t : Node) : Prop := ∀ (h : Hdr) (b o : Nat) (w : World), t.Own w h → ¬ h.F b → w.frozen? ⟨b, o, none⟩ = false →
  w.cell? ⟨b, o, none⟩ = some (.int .u8 t.kind) → w.cell? ⟨b, o + 1, none⟩ = some (.int .i64 t.num) → w.cell? ⟨b, o + 2, none⟩ = some (.string t.name) → w.cell? ⟨b, o + 3, none⟩ = some (.slice h.A t.kids.length h.c) →
  Calls Tryd.prog 60 #[.pointer (some ⟨b, o, none⟩)] w fun e w' => e = .returned (.tuple #[]) ∧ Turned w w' b o (.int .u8 (invKind t.kind)) h.F ∧ t.inv.Own w' h

theorem Turned.below {w w1 : World} (hb : Below w.heap.size w w1) {b o : Nat} {v : Value} {F : Nat → Prop} (hlt : b < w.heap.size) : Turned w (w1.setCell ⟨b, o, none⟩ v) b o v F :=
  ⟨hb.os, hb.tape, hb.output, by have := hb.size; simpa [World.setCell] using this, fun x hx _ => by
    by_cases hxb : x = b
    · subst hxb
      have e := hb.block x hx
      simp only [World.setCell, Array.getElem?_modify, if_true, e]
    · rw [set_other hxb, set_other hxb, hb.block x hx]⟩
/-- The cells of the turned block, but for the one that was turned, are as they were. -/
theorem Turned.cell {w w' : World} {b o : Nat} {v : Value} {F : Nat → Prop} (T : Turned w w' b o v F) (hF : ¬ F b) {i : Nat} {u : Value} (hi : i ≠ o) (hc : w.cell? ⟨b, i, none⟩ = some u) : w'.cell? ⟨b, i, none⟩ = some u := by
  have hlt : b < w.heap.size := World.block_lt_of_cell? _ _ hc
  rw [World.cell?_of_block (w := w.setCell ⟨b, o, none⟩ v) (T.block b hlt hF), World.cell?_setCell_other (w := w) (a := ⟨b, o, none⟩) (b := ⟨b, i, none⟩) (v := v) (by intro e; injection e with _ e; exact hi e.symm)]
  exact hc
theorem Turned.cell_at {w w' : World} {b o : Nat} {v : Value} {F : Nat → Prop} (T : Turned w w' b o v F) (hF : ¬ F b) {u : Value} (hc : w.cell? ⟨b, o, none⟩ = some u) : w'.cell? ⟨b, o, none⟩ = some v := by
  have hlt : b < w.heap.size := World.block_lt_of_cell? _ _ hc
  rw [World.cell?_of_block (w := w.setCell ⟨b, o, none⟩ v) (T.block b hlt hF)]
  exact World.cell?_setCell_same (w := w) (a := ⟨b, o, none⟩) (v := v) hc
theorem Turned.other {w w' : World} {b o : Nat} {v : Value} {F : Nat → Prop} (T : Turned w w' b o v F) {x : Nat} (hx : x < w.heap.size) (hb : x ≠ b) (hF : ¬ F x) : w'.heap[x]? = w.heap[x]? := by
  rw [T.block x hx hF, set_other hb]

theorem Turned.keeps {w w' : World} {b o : Nat} {v : Value} {F : Nat → Prop} (T : Turned w w' b o v F) {B : Nat} (hb : B ≤ b) (hF : ∀ x, F x → B ≤ x) (hB : B ≤ w.heap.size) : Below B w w' :=
  ⟨T.os, T.tape, T.output, T.size, fun x hx => T.other (by omega) (by omega) (fun h => by have := hF x h; omega)⟩
/-- One element of an owned row, turned in place. -/
theorem OwnParts.turn {W W' : World} {ks : List Node} {h : Hdr} {hs : List Hdr} (p : OwnParts W ks h hs) {g : Nat} (hA : h.A = some ⟨g, 0, none⟩) (j : Nat) (hj : j < ks.length) (hj' : j < hs.length) (u : Node)
    (T : Turned W W' g (j * 4) (.int .u8 u.kind) hs[j].F) (hu : u.Own W' hs[j]) (h1 : u.num = ks[j].num) (h2 : u.name = ks[j].name) (h3 : u.kids.length = ks[j].kids.length) : OwnParts W' (ks.set j u) h hs := by
  have hv : h.val ks.length = .slice (some ⟨g, 0, none⟩) ks.length h.c := by simp [Hdr.val, hA]
  have hlen := p.kids.len
  have hm := p.mine g (by rw [hv]; rfl)
  have hrow := p.row
  rw [hv] at hrow
  have hg := row_lt hrow rfl
  refine ⟨?_, ?_, ?_, p.sub, p.apart⟩
  · rw [KidsOwn.iff]
    refine ⟨by simp [hlen], fun m g1 g2 => ?_⟩
    rw [List.getElem_set]
    split
    · rename_i e; subst e; exact hu
    · rename_i hne
      refine Node.Own.move _ (fun x hx hlt => ?_) ((KidsOwn.iff.1 p.kids).2 m (by simpa using g1) g2)
      refine T.other hlt (fun e => hm.2 _ (List.getElem_mem g2) (e ▸ hx)) (fun hF => ?_)
      have hap := List.pairwise_iff_getElem.1 p.apart
      rcases Nat.lt_or_ge m j with hlt' | hge
      · exact hap m j g2 hj' hlt' x hx hF
      · exact hap j m hj' g2 (by omega) x hF hx
  · have hst := (hrow.stored (j * 4) (.int .u8 u.kind)).1
    have hset : (valsAll ks hs).set (j * 4) (.int .u8 u.kind) = valsAll (ks.set j u) hs := by
      have e := valsAll_set j u hs[j] hlen hj
      rw [List.set_getElem_self] at e
      rw [← e]
      apply List.ext_getElem?
      intro m
      have hL : (valsAll ks hs).length = ks.length * 4 := valsAll_length hlen
      have a1 := valsAll_at j 1 hj hj' (by omega)
      have a2 := valsAll_at j 2 hj hj' (by omega)
      have a3 := valsAll_at j 3 hj hj' (by omega)
      simp only [Node.vals, List.getElem?_cons_succ, List.getElem?_cons_zero] at a1 a2 a3
      rw [List.getElem?_set, List.getElem?_set, List.getElem?_set, List.getElem?_set, List.getElem?_set]
      simp only [List.length_set]
      by_cases m3 : j * 4 + 3 = m
      · subst m3; rw [if_neg (by omega), if_pos rfl, if_pos (by omega), a3, h3]
      · rw [if_neg m3]
        by_cases m2 : j * 4 + 2 = m
        · subst m2; rw [if_neg (by omega), if_pos rfl, if_pos (by omega), a2, h2]
        · rw [if_neg m2]
          by_cases m1 : j * 4 + 1 = m
          · subst m1; rw [if_neg (by omega), if_pos rfl, if_pos (by omega), a1, h1]
          · rw [if_neg m1]
    rw [List.length_set, hv, ← hset]
    exact row_of_block hst fun q hq => by
      obtain rfl : g = q := by simpa [Value.ownBlock] using hq
      exact T.block g hg (hm.2 _ (List.getElem_mem hj'))
  · intro b hb
    rw [List.length_set] at hb
    exact p.mine b hb

/-- While invert goes through the children. -/
structure InvState (w W : World) (t : Node) (h : Hdr) (b o : Nat) (ks : List Node) (hs : List Hdr) : Prop where
  turned : Turned w W b o (.int .u8 (invKind t.kind)) h.F
  parts : OwnParts W ks h hs
  len : ks.length = t.kids.length
/-- A list of which the first j elements have gone through f. -/
def mixAt (f : Node → Node) (l : List Node) (j : Nat) : List Node := (l.take j).map f ++ l.drop j
theorem mixAt_length (f : Node → Node) (l : List Node) (j : Nat) : (mixAt f l j).length = l.length := by simp [mixAt]; omega
theorem mixAt_at (f : Node → Node) (l : List Node) (j : Nat) (hj : j < l.length) (h : j < (mixAt f l j).length) : (mixAt f l j)[j] = l[j] := by
  unfold mixAt at h ⊢
  rw [List.getElem_append_right (by simp; omega)]
  simp [Nat.min_eq_left (Nat.le_of_lt hj)]
theorem mixAt_set (f : Node → Node) (l : List Node) (j : Nat) (hj : j < l.length) : (mixAt f l j).set j (f l[j]) = mixAt f l (j + 1) := by
  unfold mixAt
  have e : j - ((l.take j).map f).length = 0 := by simp; omega
  rw [List.set_append_right _ _ (by simp; omega), e, List.take_succ_eq_append_getElem hj, List.drop_eq_getElem_cons hj, List.set_cons_zero, List.map_append, List.append_assoc]
  rfl
theorem mixAt_skip (f : Node → Node) (l : List Node) (j : Nat) (hj : j < l.length) (hf : f l[j] = l[j]) : mixAt f l j = mixAt f l (j + 1) := by
  rw [← mixAt_set f l j hj, hf, ← mixAt_at f l j hj (by rw [mixAt_length]; exact hj), List.set_getElem_self]
theorem mixAt_zero (f : Node → Node) (l : List Node) : mixAt f l 0 = l := by simp [mixAt]
theorem mixAt_full (f : Node → Node) (l : List Node) : mixAt f l l.length = l.map f := by simp [mixAt]
/-- A child inverted. -/
theorem InvState.next {w W W' : World} {t : Node} {h : Hdr} {b o : Nat} {ks : List Node} {hs : List Hdr} (S : InvState w W t h b o ks hs) (hF : ¬ h.F b) {g : Nat} (hA : h.A = some ⟨g, 0, none⟩) (j : Nat) (hj : j < ks.length) (hj' : j < hs.length)
    (T : Turned W W' g (j * 4) (.int .u8 (invKind ks[j].kind)) hs[j].F) (hu : ks[j].inv.Own W' hs[j]) : InvState w W' t h b o (ks.set j ks[j].inv) hs := by
  have hv : h.val ks.length = .slice (some ⟨g, 0, none⟩) ks.length h.c := by simp [Hdr.val, hA]
  have hg := (S.parts.mine g (by rw [hv]; rfl)).1
  refine ⟨⟨T.os.trans S.turned.os, T.tape.trans S.turned.tape, T.output.trans S.turned.output, Nat.le_trans S.turned.size T.size, fun x hx hFx => ?_⟩, S.parts.turn hA j hj hj' _ (by rw [Node.inv_kind]; exact T) hu (Node.inv_num _) (Node.inv_name _) (Node.inv_kids_length _), by simpa using S.len⟩
  rw [T.other (Nat.lt_of_lt_of_le hx S.turned.size) (fun e => hFx (e ▸ hg)) (fun h1 => hFx (S.parts.sub _ (List.getElem_mem hj') _ h1))]
  exact S.turned.block x hx hFx

theorem OwnParts.same {W W' : World} {ks : List Node} {h : Hdr} {hs : List Hdr} (p : OwnParts W ks h hs) (hb : ∀ x : Nat, W'.heap[x]? = W.heap[x]?) : OwnParts W' ks h hs :=
  ⟨KidsOwn.iff.2 ⟨p.kids.len, fun j g1 g2 => Node.Own.move _ (fun x _ _ => hb x) ((KidsOwn.iff.1 p.kids).2 j g1 g2)⟩, row_of_block p.row fun g hg => hb g, p.mine, p.sub, p.apart⟩
theorem InvState.drew {w W : World} {t : Node} {h : Hdr} {b o : Nat} {ks : List Node} {hs : List Hdr} (S : InvState w W t h b o ks hs) : InvState w W.drew t h b o ks hs :=
  ⟨⟨S.turned.os, S.turned.tape, S.turned.output, S.turned.size, S.turned.block⟩, S.parts.same (fun x => (show W.drew.heap[x]? = W.heap[x]? from rfl)), S.len⟩
theorem swapEnds4 (l : List Node) (hn : l.length = 4) (h0 : 0 < l.length) (h3 : 3 < l.length) : swapEnds l = swapped l 0 3 h0 h3 := by
  rcases l with _ | ⟨x0, _ | ⟨x1, _ | ⟨x2, _ | ⟨x3, _ | ⟨x4, r⟩⟩⟩⟩⟩
  · simp at hn
  · simp at hn
  · simp at hn
  · simp at hn
  · rfl
  · simp at hn
theorem swapEnds3 (l : List Node) (hn : l.length = 3) (h0 : 0 < l.length) (h3 : 2 < l.length) : swapEnds l = swapped l 0 2 h0 h3 := by
  rcases l with _ | ⟨x0, _ | ⟨x1, _ | ⟨x2, _ | ⟨x3, r⟩⟩⟩⟩
  · simp at hn
  · simp at hn
  · simp at hn
  · rfl
  · simp at hn
/-- Two children exchanged. -/
theorem InvState.swap {w W : World} {t : Node} {h : Hdr} {b o : Nat} {ks : List Node} {hs : List Hdr} (S : InvState w W t h b o ks hs) {g : Nat} (hA : h.A = some ⟨g, 0, none⟩) (i j : Nat) (hi : i < ks.length) (hj : j < ks.length) (hi' : i < hs.length) (hj' : j < hs.length) :
    InvState w (set4 (set4 W g (i * 4) ks[j] hs[j]) g (j * 4) ks[i] hs[i]) t h b o (swapped ks i j hi hj) (swapped hs i j hi' hj') := by
  have hv : h.val ks.length = .slice (some ⟨g, 0, none⟩) ks.length h.c := by simp [Hdr.val, hA]
  have hg := (S.parts.mine g (by rw [hv]; rfl)).1
  have hp := S.parts.swap hA i j hi hj hi' hj'
  have h4 : ∀ (X : World) (q : Nat) (u : Node) (z : Hdr), (set4 X g q u z).os = X.os ∧ (set4 X g q u z).tape = X.tape ∧ (set4 X g q u z).output = X.output := fun X q u z => set4_drawn
  have hos := (h4 (set4 W g (i * 4) ks[j] hs[j]) (j * 4) ks[i] hs[i]).1.trans (h4 W (i * 4) ks[j] hs[j]).1
  have hta := (h4 (set4 W g (i * 4) ks[j] hs[j]) (j * 4) ks[i] hs[i]).2.1.trans (h4 W (i * 4) ks[j] hs[j]).2.1
  have hou := (h4 (set4 W g (i * 4) ks[j] hs[j]) (j * 4) ks[i] hs[i]).2.2.trans (h4 W (i * 4) ks[j] hs[j]).2.2
  have hsz : (set4 (set4 W g (i * 4) ks[j] hs[j]) g (j * 4) ks[i] hs[i]).heap.size = W.heap.size := by rw [set4_size, set4_size]
  have hbl : ∀ x, x ≠ g → (set4 (set4 W g (i * 4) ks[j] hs[j]) g (j * 4) ks[i] hs[i]).heap[x]? = W.heap[x]? := fun x hx => by rw [set4_other hx, set4_other hx]
  generalize set4 (set4 W g (i * 4) ks[j] hs[j]) g (j * 4) ks[i] hs[i] = Z at hp hos hta hou hsz hbl ⊢
  refine ⟨⟨hos.trans S.turned.os, hta.trans S.turned.tape, hou.trans S.turned.output, by rw [hsz]; exact S.turned.size, fun x hx hFx => ?_⟩, hp, by rw [swapped_length]; exact S.len⟩
  rw [hbl x (fun e => hFx (by rw [e]; exact hg))]
  exact S.turned.block x hx hFx
end Go.Proofs.YtgjanglonccclaaDoor

/- Contract of inverter.invert: the walk. -/
namespace Go.Proofs.YtgjanglonccclaaDoor
open Go.RowKit
set_option linter.unusedVariables false
set_option linter.unusedSimpArgs false

/-- What every part of the walk knows. -/
structure InvPre (w : World) (t : Node) (h : Hdr) (b o : Nat) (hs : List Hdr) : Prop where
  parts : OwnParts w t.kids h hs
  nF : ¬ h.F b
  fr : w.frozen? ⟨b, o, none⟩ = false
  c0 : w.cell? ⟨b, o, none⟩ = some (.int .u8 t.kind)
  c1 : w.cell? ⟨b, o + 1, none⟩ = some (.int .i64 t.num)
  c2 : w.cell? ⟨b, o + 2, none⟩ = some (.string t.name)
  c3 : w.cell? ⟨b, o + 3, none⟩ = some (.slice h.A t.kids.length h.c)

theorem InvPre.start {w w1 : World} {t : Node} {h : Hdr} {b o : Nat} {hs : List Hdr} (p : InvPre w t h b o hs) (hb : Below w.heap.size w w1) :
    InvState w (w1.setCell ⟨b, o, none⟩ (.int .u8 (invKind t.kind))) t h b o t.kids hs := by
  have hlt : b < w.heap.size := World.block_lt_of_cell? _ _ p.c0
  refine ⟨Turned.below hb hlt, ?_, rfl⟩
  have q := p.parts.below hb
  have hne : ∀ x, h.F x → x ≠ b := fun x hx e => p.nF (e ▸ hx)
  refine ⟨KidsOwn.iff.2 ⟨q.kids.len, fun j g1 g2 => Node.Own.move _ (fun x hx _ => set_other (hne x (q.sub _ (List.getElem_mem g2) x hx))) ((KidsOwn.iff.1 q.kids).2 j g1 g2)⟩, row_of_block q.row fun g hg => set_other (hne g (q.mine g hg).1), q.mine, q.sub, q.apart⟩
theorem InvState.c0 {w W : World} {t : Node} {h : Hdr} {b o : Nat} {ks : List Node} {hs hs' : List Hdr} (S : InvState w W t h b o ks hs) (p : InvPre w t h b o hs') : W.cell? ⟨b, o, none⟩ = some (.int .u8 (invKind t.kind)) := S.turned.cell_at p.nF p.c0
theorem InvState.c3 {w W : World} {t : Node} {h : Hdr} {b o : Nat} {ks : List Node} {hs hs' : List Hdr} (S : InvState w W t h b o ks hs) (p : InvPre w t h b o hs') : W.cell? ⟨b, o + 3, none⟩ = some (.slice h.A t.kids.length h.c) := S.turned.cell p.nF (by omega) p.c3
/-- Child j in the list as it now stands. -/
theorem InvState.at_ {w W : World} {t : Node} {h : Hdr} {b o : Nat} {ks : List Node} {hs : List Hdr} (S : InvState w W t h b o ks hs) (j : Nat) (hj : j < ks.length) (u : Node) (hu : ks[j] = u) :
    ∃ (g : Nat) (h2 : j < hs.length), h.A = some ⟨g, 0, none⟩ ∧ ¬ hs[j].F g ∧ W.frozen? ⟨g, j * 4, none⟩ = false ∧ W.cell? ⟨g, j * 4, none⟩ = some (.int .u8 u.kind) ∧ W.cell? ⟨g, j * 4 + 1, none⟩ = some (.int .i64 u.num) ∧
      W.cell? ⟨g, j * 4 + 2, none⟩ = some (.string u.name) ∧ W.cell? ⟨g, j * 4 + 3, none⟩ = some (.slice hs[j].A u.kids.length hs[j].c) ∧ u.Own W hs[j] := by
  subst hu
  obtain ⟨g, h2, hA, _, _, hf, e0, e1, e2, e3, e4⟩ := S.parts.at_ j hj
  have hv : h.val ks.length = .slice (some ⟨g, 0, none⟩) ks.length h.c := by simp [Hdr.val, hA]
  exact ⟨g, h2, hA, (S.parts.mine g (by rw [hv]; rfl)).2 _ (List.getElem_mem h2), hf _, e0, e1, e2, e3, e4⟩

set_option maxHeartbeats 4000000 in
set_option maxRecDepth 100000 in
theorem invert_plain (t : Node) (ih : ∀ k ∈ t.kids, (k.kind == 57) = true → InvRuns k) (hk : (invKind t.kind == 52) = false) (hk2 : (invKind t.kind == 53) = false) (hk3 : (invKind t.kind == 54) = false) (hk4 : (invKind t.kind == 57) = false)
    (A : Option Addr) (c : Nat) (F : Nat → Prop) (b o : Nat) (w : World) (hs : List Hdr) (hp : InvPre w t ⟨A, c, F⟩ b o hs) (hl : (t.kids.length : Int) ≤ 2513169434916) :
    Calls Tryd.prog 60 #[.pointer (some ⟨b, o, none⟩)] w fun e w' => e = .returned (.tuple #[]) ∧ InvState w w' t ⟨A, c, F⟩ b o (t.kids.map invB) hs := by
  have HV := Hd.mk (inverse_any t.kind w)
  have HP := Hd.mk hp
  have IH := Hd.mk ih
  have d0 := hp.c0
  have d3 := hp.c3
  have dF := hp.fr
  dsimp only at d3
  clear hp ih
  go_enter Tryd.func60, Tryd.ntmps60
  go_wp2_with (go_at_call 84; refine (HV.out).mono ?_; rintro e w1 ⟨rfl, hb⟩; have g0 := (hb.cell (p := ⟨b, o, none⟩) (World.block_lt_of_cell? _ _ d0)).trans d0; have g3 := (hb.cell (p := ⟨b, o + 3, none⟩) (World.block_lt_of_cell? _ _ d3)).trans d3; have gF := (hb.frozen (p := ⟨b, o, none⟩) (World.block_lt_of_cell? _ _ d0)).trans dF)
  go_loopw [2, 19] (fun v2 v19 W => ∃ j : Nat, j ≤ t.kids.length ∧ v19 = .int .i64 j ∧ InvState w W t ⟨A, c, F⟩ b o (mixAt invB t.kids j) hs) (fun _ v19 _ => t.kids.length - (intOf v19).toNat)
  case atStart => exact ⟨0, Nat.zero_le _, rfl, by rw [mixAt_zero]; exact HP.out.start hb⟩
  case round =>
    obtain ⟨j, hj, rfl, S⟩ := hrel
    have s0 := S.c0 HP.out
    have s3 := S.c3 HP.out
    dsimp only at s3
    by_cases hlt : j < t.kids.length
    · have hlm : j < (mixAt invB t.kids j).length := by rw [mixAt_length]; exact hlt
      obtain ⟨g, h2, hA, hnF, hfr, e0, e1, e2, e3, e4⟩ := S.at_ j hlm t.kids[j] (mixAt_at _ _ _ hlt hlm)
      obtain rfl : A = some ⟨g, 0, none⟩ := hA
      have S2 := Hd.mk S
      have HLM := Hd.mk hlm
      clear S hlm
      cases hkj : (t.kids[j].kind == 57)
      · go_wp2_with fail
        go_roundw
        case rel =>
          refine ⟨j + 1, hlt, by go_num, ?_⟩
          rw [← mixAt_skip invB t.kids j hlt (by simp [invB, hkj])]
          exact S2.out
        case measure => simp [intOf]; omega
      · have HC := Hd.mk (IH.out t.kids[j] (List.getElem_mem _) hkj hs[j] g (j * 4) wr e4 hnF hfr e0 e1 e2 e3)
        go_wp2_with (go_at_call 60; refine (HC.out).mono ?_; rintro e w2 ⟨rfl, hT, hO⟩)
        go_roundw
        case rel =>
          refine ⟨j + 1, hlt, by go_num, ?_⟩
          have e5 := mixAt_at invB t.kids j hlt HLM.out
          have hn := S2.out.next HP.out.nF rfl j HLM.out h2 (by rw [e5]; exact hT) (by rw [e5]; exact hO)
          rw [e5] at hn
          rw [← mixAt_set invB t.kids j hlt]
          have e6 : invB t.kids[j] = t.kids[j].inv := by simp [invB, hkj]
          rw [e6]; exact hn
        case measure => simp [intOf]; omega
    · have : j = t.kids.length := by omega
      subst this
      rw [mixAt_full] at S
      have S2 := Hd.mk S
      clear S
      go_wp2_with fail
      all_goals
        go_end0
        exact ⟨rfl, S2.out⟩
end Go.Proofs.YtgjanglonccclaaDoor

/- Contract of inverter.invert: the walk. -/
namespace Go.Proofs.YtgjanglonccclaaDoor
open Go.RowKit
set_option linter.unusedVariables false
set_option linter.unusedSimpArgs false

set_option maxHeartbeats 4000000 in
set_option maxRecDepth 100000 in
theorem invert_swap4 (t : Node) (ih : ∀ k ∈ t.kids, (k.kind == 57) = true → InvRuns k) (hk : (invKind t.kind == 52) = true ∨ (invKind t.kind == 53) = true) (hn : t.kids.length = 4)
    (A : Option Addr) (c : Nat) (F : Nat → Prop) (b o : Nat) (w : World) (hs : List Hdr) (hp : InvPre w t ⟨A, c, F⟩ b o hs) (hl : (t.kids.length : Int) ≤ 2513169434916) :
    Calls Tryd.prog 60 #[.pointer (some ⟨b, o, none⟩)] w fun e w' => e = .returned (.tuple #[]) ∧ ∃ hs', InvState w w' t ⟨A, c, F⟩ b o (swapEnds (t.kids.map invB)) hs' := by
  have HN := Hd.mk hn
  have HK := Hd.mk hk
  clear hn hk
  have HV := Hd.mk (inverse_any t.kind w)
  have HP := Hd.mk hp
  have IH := Hd.mk ih
  have d0 := hp.c0
  have d3 := hp.c3
  have dF := hp.fr
  dsimp only at d3
  clear hp ih
  go_enter Tryd.func60, Tryd.ntmps60
  go_wp2_with (go_at_call 84; refine (HV.out).mono ?_; rintro e w1 ⟨rfl, hb⟩; have g0 := (hb.cell (p := ⟨b, o, none⟩) (World.block_lt_of_cell? _ _ d0)).trans d0; have g3 := (hb.cell (p := ⟨b, o + 3, none⟩) (World.block_lt_of_cell? _ _ d3)).trans d3; have gF := (hb.frozen (p := ⟨b, o, none⟩) (World.block_lt_of_cell? _ _ d0)).trans dF)
  go_loopw [2, 19] (fun v2 v19 W => ∃ j : Nat, j ≤ t.kids.length ∧ v19 = .int .i64 j ∧ InvState w W t ⟨A, c, F⟩ b o (mixAt invB t.kids j) hs) (fun _ v19 _ => t.kids.length - (intOf v19).toNat)
  case atStart => exact ⟨0, Nat.zero_le _, rfl, by rw [mixAt_zero]; exact HP.out.start hb⟩
  case round =>
    obtain ⟨j, hj, rfl, S⟩ := hrel
    have s0 := S.c0 HP.out
    have s3 := S.c3 HP.out
    dsimp only at s3
    by_cases hlt : j < t.kids.length
    · have hlm : j < (mixAt invB t.kids j).length := by rw [mixAt_length]; exact hlt
      obtain ⟨g, h2, hA, hnF, hfr, e0, e1, e2, e3, e4⟩ := S.at_ j hlm t.kids[j] (mixAt_at _ _ _ hlt hlm)
      obtain rfl : A = some ⟨g, 0, none⟩ := hA
      have S2 := Hd.mk S
      have HLM := Hd.mk hlm
      clear S hlm
      cases hkj : (t.kids[j].kind == 57)
      · go_wp2_with fail
        go_roundw
        case rel =>
          refine ⟨j + 1, hlt, by go_num, ?_⟩
          rw [← mixAt_skip invB t.kids j hlt (by simp [invB, hkj])]
          exact S2.out
        case measure => simp [intOf]; omega
      · have HC := Hd.mk (IH.out t.kids[j] (List.getElem_mem _) hkj hs[j] g (j * 4) wr e4 hnF hfr e0 e1 e2 e3)
        go_wp2_with (go_at_call 60; refine (HC.out).mono ?_; rintro e w2 ⟨rfl, hT, hO⟩)
        go_roundw
        case rel =>
          refine ⟨j + 1, hlt, by go_num, ?_⟩
          have e5 := mixAt_at invB t.kids j hlt HLM.out
          have hn := S2.out.next HP.out.nF rfl j HLM.out h2 (by rw [e5]; exact hT) (by rw [e5]; exact hO)
          rw [e5] at hn
          rw [← mixAt_set invB t.kids j hlt]
          have e6 : invB t.kids[j] = t.kids[j].inv := by simp [invB, hkj]
          rw [e6]; exact hn
        case measure => simp [intOf]; omega
    · have : j = t.kids.length := by omega
      subst this
      rw [mixAt_full] at S
      obtain ⟨g, k0, hA, _, _, hfr, e0, e1, e2, e3, e4⟩ := S.parts.at_ 0 (by simp [HN.out])
      obtain rfl : A = some ⟨g, 0, none⟩ := hA
      obtain ⟨g', k1, hA', _, _, _, f0, f1, f2, f3, f4⟩ := S.parts.at_ 3 (by simp [HN.out])
      obtain rfl : g' = g := by injection hA' with q; injection q with q; exact q.symm
      simp only [Nat.zero_mul, Nat.zero_add, Nat.reduceMul, Nat.reduceAdd] at e0 e1 e2 e3 f0 f1 f2 f3
      have r0 := hfr 0
      have r1 := hfr 1
      have r2 := hfr 2
      have r3 := hfr 3
      have r12 := hfr 12
      have r13 := hfr 13
      have r14 := hfr 14
      have r15 := hfr 15
      have S2 := Hd.mk S
      have hn := HN.out
      clear S e4 f4 hA' hfr
      obtain ⟨u0, hu0⟩ : ∃ u, (t.kids.map invB)[0]'(by simp [HN.out]) = u := ⟨_, rfl⟩
      obtain ⟨u3, hu3⟩ : ∃ u, (t.kids.map invB)[3]'(by simp [HN.out]) = u := ⟨_, rfl⟩
      obtain ⟨q0, hq0⟩ : ∃ q, hs[0] = q := ⟨_, rfl⟩
      obtain ⟨q3, hq3⟩ : ∃ q, hs[3] = q := ⟨_, rfl⟩
      rw [hu0] at e0 e1 e2 e3
      rw [hu3] at f0 f1 f2 f3
      rw [hq0] at e3
      rw [hq3] at f3
      have HU0 := Hd.mk hu0
      have HU3 := Hd.mk hu3
      have HQ0 := Hd.mk hq0
      have HQ3 := Hd.mk hq3
      clear hu0 hu3 hq0 hq3 HV IH d0 d3 dF g0 g3 gF hlt
      rcases HK.out with hk | hk
      all_goals
        go_wp2_with fail
        go_region
        go_wp2_with fail
        go_end0
        have hl3 : 3 < (t.kids.map invB).length := by simp [HN.out]
        have hl0 : 0 < (t.kids.map invB).length := by simp [HN.out]
        have Z := S2.out.swap rfl 0 3 hl0 hl3 k0 k1
        rw [HU0.out, HU3.out, HQ0.out, HQ3.out] at Z
        refine ⟨rfl, swapped hs 0 3 k0 k1, ?_⟩
        rw [swapEnds4 _ (by simp [HN.out]) hl0 hl3]
        exact Z.drew

set_option maxHeartbeats 4000000 in
set_option maxRecDepth 100000 in
theorem invert_swap3 (t : Node) (ih : ∀ k ∈ t.kids, (k.kind == 57) = true → InvRuns k) (hk : (invKind t.kind == 54) = true) (hn : t.kids.length = 3)
    (A : Option Addr) (c : Nat) (F : Nat → Prop) (b o : Nat) (w : World) (hs : List Hdr) (hp : InvPre w t ⟨A, c, F⟩ b o hs) (hl : (t.kids.length : Int) ≤ 2513169434916) :
    Calls Tryd.prog 60 #[.pointer (some ⟨b, o, none⟩)] w fun e w' => e = .returned (.tuple #[]) ∧ ∃ hs', InvState w w' t ⟨A, c, F⟩ b o (swapEnds (t.kids.map invB)) hs' := by
  have HN := Hd.mk hn
  have HK := Hd.mk hk
  clear hn hk
  have HV := Hd.mk (inverse_any t.kind w)
  have HP := Hd.mk hp
  have IH := Hd.mk ih
  have d0 := hp.c0
  have d3 := hp.c3
  have dF := hp.fr
  dsimp only at d3
  clear hp ih
  go_enter Tryd.func60, Tryd.ntmps60
  go_wp2_with (go_at_call 84; refine (HV.out).mono ?_; rintro e w1 ⟨rfl, hb⟩; have g0 := (hb.cell (p := ⟨b, o, none⟩) (World.block_lt_of_cell? _ _ d0)).trans d0; have g3 := (hb.cell (p := ⟨b, o + 3, none⟩) (World.block_lt_of_cell? _ _ d3)).trans d3; have gF := (hb.frozen (p := ⟨b, o, none⟩) (World.block_lt_of_cell? _ _ d0)).trans dF)
  go_loopw [2, 19] (fun v2 v19 W => ∃ j : Nat, j ≤ t.kids.length ∧ v19 = .int .i64 j ∧ InvState w W t ⟨A, c, F⟩ b o (mixAt invB t.kids j) hs) (fun _ v19 _ => t.kids.length - (intOf v19).toNat)
  case atStart => exact ⟨0, Nat.zero_le _, rfl, by rw [mixAt_zero]; exact HP.out.start hb⟩
  case round =>
    obtain ⟨j, hj, rfl, S⟩ := hrel
    have s0 := S.c0 HP.out
    have s3 := S.c3 HP.out
    dsimp only at s3
    by_cases hlt : j < t.kids.length
    · have hlm : j < (mixAt invB t.kids j).length := by rw [mixAt_length]; exact hlt
      obtain ⟨g, h2, hA, hnF, hfr, e0, e1, e2, e3, e4⟩ := S.at_ j hlm t.kids[j] (mixAt_at _ _ _ hlt hlm)
      obtain rfl : A = some ⟨g, 0, none⟩ := hA
      have S2 := Hd.mk S
      have HLM := Hd.mk hlm
      clear S hlm
      cases hkj : (t.kids[j].kind == 57)
      · go_wp2_with fail
        go_roundw
        case rel =>
          refine ⟨j + 1, hlt, by go_num, ?_⟩
          rw [← mixAt_skip invB t.kids j hlt (by simp [invB, hkj])]
          exact S2.out
        case measure => simp [intOf]; omega
      · have HC := Hd.mk (IH.out t.kids[j] (List.getElem_mem _) hkj hs[j] g (j * 4) wr e4 hnF hfr e0 e1 e2 e3)
        go_wp2_with (go_at_call 60; refine (HC.out).mono ?_; rintro e w2 ⟨rfl, hT, hO⟩)
        go_roundw
        case rel =>
          refine ⟨j + 1, hlt, by go_num, ?_⟩
          have e5 := mixAt_at invB t.kids j hlt HLM.out
          have hn := S2.out.next HP.out.nF rfl j HLM.out h2 (by rw [e5]; exact hT) (by rw [e5]; exact hO)
          rw [e5] at hn
          rw [← mixAt_set invB t.kids j hlt]
          have e6 : invB t.kids[j] = t.kids[j].inv := by simp [invB, hkj]
          rw [e6]; exact hn
        case measure => simp [intOf]; omega
    · have : j = t.kids.length := by omega
      subst this
      rw [mixAt_full] at S
      obtain ⟨g, k0, hA, _, _, hfr, e0, e1, e2, e3, e4⟩ := S.parts.at_ 0 (by simp [HN.out])
      obtain rfl : A = some ⟨g, 0, none⟩ := hA
      obtain ⟨g', k1, hA', _, _, _, f0, f1, f2, f3, f4⟩ := S.parts.at_ 2 (by simp [HN.out])
      obtain rfl : g' = g := by injection hA' with q; injection q with q; exact q.symm
      simp only [Nat.zero_mul, Nat.zero_add, Nat.reduceMul, Nat.reduceAdd] at e0 e1 e2 e3 f0 f1 f2 f3
      have r0 := hfr 0
      have r1 := hfr 1
      have r2 := hfr 2
      have r3 := hfr 3
      have r12 := hfr 8
      have r13 := hfr 9
      have r14 := hfr 10
      have r15 := hfr 11
      have S2 := Hd.mk S
      have hn := HN.out
      clear S e4 f4 hA' hfr
      obtain ⟨u0, hu0⟩ : ∃ u, (t.kids.map invB)[0]'(by simp [HN.out]) = u := ⟨_, rfl⟩
      obtain ⟨u3, hu3⟩ : ∃ u, (t.kids.map invB)[2]'(by simp [HN.out]) = u := ⟨_, rfl⟩
      obtain ⟨q0, hq0⟩ : ∃ q, hs[0] = q := ⟨_, rfl⟩
      obtain ⟨q3, hq3⟩ : ∃ q, hs[2] = q := ⟨_, rfl⟩
      rw [hu0] at e0 e1 e2 e3
      rw [hu3] at f0 f1 f2 f3
      rw [hq0] at e3
      rw [hq3] at f3
      have HU0 := Hd.mk hu0
      have HU3 := Hd.mk hu3
      have HQ0 := Hd.mk hq0
      have HQ3 := Hd.mk hq3
      clear hu0 hu3 hq0 hq3 HV IH d0 d3 dF g0 g3 gF hlt
      have hk := HK.out
      all_goals
        go_wp2_with fail
        go_region
        go_wp2_with fail
        go_end0
        have hl3 : 2 < (t.kids.map invB).length := by simp [HN.out]
        have hl0 : 0 < (t.kids.map invB).length := by simp [HN.out]
        have Z := S2.out.swap rfl 0 2 hl0 hl3 k0 k1
        rw [HU0.out, HU3.out, HQ0.out, HQ3.out] at Z
        refine ⟨rfl, swapped hs 0 2 k0 k1, ?_⟩
        rw [swapEnds3 _ (by simp [HN.out]) hl0 hl3]
        exact Z.drew
end Go.Proofs.YtgjanglonccclaaDoor

/- Contract of inverter.invert: the walk. -/
namespace Go.Proofs.YtgjanglonccclaaDoor
open Go.RowKit
set_option linter.unusedVariables false
set_option linter.unusedSimpArgs false

set_option maxHeartbeats 4000000 in
set_option maxRecDepth 100000 in
theorem invert_block (t : Node) (ih : ∀ k ∈ t.kids, InvRuns k) (hs57 : ∀ k ∈ t.kids, (k.kind == 57) = false) (hk : (invKind t.kind == 57) = true)
    (A : Option Addr) (c : Nat) (F : Nat → Prop) (b o : Nat) (w : World) (hs : List Hdr) (hp : InvPre w t ⟨A, c, F⟩ b o hs) (hl : (t.kids.length : Int) ≤ 2513169434916) :
    Calls Tryd.prog 60 #[.pointer (some ⟨b, o, none⟩)] w fun e w' => e = .returned (.tuple #[]) ∧ ∃ hs', InvState w w' t ⟨A, c, F⟩ b o (t.kids.map Node.inv).reverse hs' := by
  have H57 := Hd.mk hs57
  have HK := Hd.mk hk
  clear hk hs57
  have HV := Hd.mk (inverse_any t.kind w)
  have HP := Hd.mk hp
  have IH := Hd.mk ih
  have d0 := hp.c0
  have d3 := hp.c3
  have dF := hp.fr
  dsimp only at d3
  clear hp ih
  go_enter Tryd.func60, Tryd.ntmps60
  go_wp2_with (go_at_call 84; refine (HV.out).mono ?_; rintro e w1 ⟨rfl, hb⟩; have g0 := (hb.cell (p := ⟨b, o, none⟩) (World.block_lt_of_cell? _ _ d0)).trans d0; have g3 := (hb.cell (p := ⟨b, o + 3, none⟩) (World.block_lt_of_cell? _ _ d3)).trans d3; have gF := (hb.frozen (p := ⟨b, o, none⟩) (World.block_lt_of_cell? _ _ d0)).trans dF)
  go_loopw [2, 19] (fun v2 v19 W => ∃ j : Nat, j ≤ t.kids.length ∧ v19 = .int .i64 j ∧ InvState w W t ⟨A, c, F⟩ b o t.kids hs) (fun _ v19 _ => t.kids.length - (intOf v19).toNat)
  case atStart => exact ⟨0, Nat.zero_le _, rfl, HP.out.start hb⟩
  case round =>
    obtain ⟨j, hj, rfl, S⟩ := hrel
    have s0 := S.c0 HP.out
    have s3 := S.c3 HP.out
    dsimp only at s3
    by_cases hlt : j < t.kids.length
    · obtain ⟨g, h2, hA, hnF, hfr, e0, e1, e2, e3, e4⟩ := S.at_ j hlt _ rfl
      obtain rfl : A = some ⟨g, 0, none⟩ := hA
      have hkj := H57.out t.kids[j] (List.getElem_mem _)
      go_wp2_with fail
      go_roundw
      case rel => exact ⟨j + 1, hlt, by go_num, S⟩
      case measure => simp [intOf]; omega
    · have : j = t.kids.length := by omega
      subst this
      have S2 := Hd.mk S
      have hk := HK.out
      have k2 : (invKind t.kind == 52) = false := by simp at hk ⊢; omega
      have k3 : (invKind t.kind == 53) = false := by simp at hk ⊢; omega
      have k4 : (invKind t.kind == 54) = false := by simp at hk ⊢; omega
      clear S HV d0 d3 dF g0 g3 gF hlt hb
      go_wp2_with fail
      clear k2 k3 k4 hk s0 s3
      go_loopw [4, 84] (fun v4 v84 W => ∃ j : Nat, j ≤ t.kids.length ∧ v84 = .int .i64 j ∧ InvState w W t ⟨A, c, F⟩ b o (mixAt Node.inv t.kids j) hs) (fun _ v84 _ => t.kids.length - (intOf v84).toNat)
      case atStart => exact ⟨0, Nat.zero_le _, rfl, by rw [mixAt_zero]; exact S2.out⟩
      case round =>
        obtain ⟨j, hj, rfl, S⟩ := hrel
        have s3 := S.c3 HP.out
        dsimp only at s3
        by_cases hlt : j < t.kids.length
        · have hlm : j < (mixAt Node.inv t.kids j).length := by rw [mixAt_length]; exact hlt
          obtain ⟨g, h2, hA, hnF, hfr, e0, e1, e2, e3, e4⟩ := S.at_ j hlm t.kids[j] (mixAt_at _ _ _ hlt hlm)
          obtain rfl : A = some ⟨g, 0, none⟩ := hA
          have S3 := Hd.mk S
          have HLM := Hd.mk hlm
          clear S hlm
          have HC := Hd.mk (IH.out t.kids[j] (List.getElem_mem _) hs[j] g (j * 4) _ e4 hnF hfr e0 e1 e2 e3)
          go_wp2_with (go_at_call 60; refine (HC.out).mono ?_; rintro e w2 ⟨rfl, hT, hO⟩)
          go_roundw
          case rel =>
            refine ⟨j + 1, hlt, by go_num, ?_⟩
            have e5 := mixAt_at Node.inv t.kids j hlt HLM.out
            have hn := S3.out.next HP.out.nF rfl j HLM.out h2 (by rw [e5]; exact hT) (by rw [e5]; exact hO)
            rw [e5] at hn
            rw [← mixAt_set Node.inv t.kids j hlt]
            exact hn
          case measure => simp [intOf]; omega
        · have : j = t.kids.length := by omega
          subst this
          rw [mixAt_full] at S
          have S3 := Hd.mk S
          clear S
          have hlh := S3.out.parts.kids.len
          go_wp2_with fail
          go_loopw [5] (fun v5 W => ∃ (i : Nat) (cur : List Node) (hcur : List Hdr), i ≤ t.kids.length ∧ v5 = .int .i64 i ∧ Hd (RevTo (t.kids.map Node.inv) cur i ∧ RevTo hs hcur i ∧ InvState w W t ⟨A, c, F⟩ b o cur hcur)) (fun v5 _ => t.kids.length - (intOf v5).toNat)
          case atStart => exact ⟨0, _, _, Nat.zero_le _, rfl, RevTo.zero _, RevTo.zero _, S3.out⟩
          case round =>
            obtain ⟨i, cur, hcur, hi, rfl, HR⟩ := hrel
            have s3 := HR.out.2.2.c3 HP.out
            dsimp only at s3
            have hlc : cur.length = t.kids.length := HR.out.2.2.len
            have hlq : hcur.length = t.kids.length := by rw [← HR.out.2.2.parts.kids.len]; exact hlc
            by_cases hlt2 : i < t.kids.length - 1 - i
            · obtain ⟨m, hm⟩ : ∃ m : Nat, m = t.kids.length - 1 - i := ⟨_, rfl⟩
              have hic : i < cur.length := by omega
              have hmc : m < cur.length := by omega
              have hiq : i < hcur.length := by omega
              have hmq : m < hcur.length := by omega
              obtain ⟨u0, hu0⟩ : ∃ u, cur[i] = u := ⟨_, rfl⟩
              obtain ⟨u3, hu3⟩ : ∃ u, cur[m] = u := ⟨_, rfl⟩
              obtain ⟨q0, hq0⟩ : ∃ q, hcur[i] = q := ⟨_, rfl⟩
              obtain ⟨q3, hq3⟩ : ∃ q, hcur[m] = q := ⟨_, rfl⟩
              obtain ⟨g, k0, hA, _, _, hfr, e0, e1, e2, e3, e4⟩ := HR.out.2.2.parts.at_ i hic
              obtain rfl : A = some ⟨g, 0, none⟩ := hA
              obtain ⟨g', k1, hA', _, _, _, f0, f1, f2, f3, f4⟩ := HR.out.2.2.parts.at_ m hmc
              obtain rfl : g' = g := by injection hA' with q; injection q with q; exact q.symm
              rw [hu0] at e0 e1 e2 e3
              rw [hu3] at f0 f1 f2 f3
              rw [hq0] at e3
              rw [hq3] at f3
              have r0 := hfr (i * 4)
              have r1 := hfr (i * 4 + 1)
              have r2 := hfr (i * 4 + 2)
              have r3 := hfr (i * 4 + 3)
              have r12 := hfr (m * 4)
              have r13 := hfr (m * 4 + 1)
              have r14 := hfr (m * 4 + 2)
              have r15 := hfr (m * 4 + 3)
              have hme : ((t.kids.length : Int) - 1 - (i : Int)) = (m : Int) := by omega
              have hmi : i < m := by omega
              have hml : m < t.kids.length := by omega
              have HM := Hd.mk hm
              have HU0 := Hd.mk hu0
              have HU3 := Hd.mk hu3
              have HQ0 := Hd.mk hq0
              have HQ3 := Hd.mk hq3
              have HLC := Hd.mk hlc
              have HLQ := Hd.mk hlq
              have hlt3 : i < t.kids.length := by omega
              clear hu0 hu3 hq0 hq3 e4 f4 hA' hfr hlc hlq hm hlh
              go_wp2_with fail
              go_region
              go_wp2_with fail
              go_roundw
              case rel =>
                have Z := HR.out.2.2.swap rfl i m hic hmc hiq hmq
                rw [HU0.out, HU3.out, HQ0.out, HQ3.out] at Z
                have R1 := HR.out.1
                have R2 := HR.out.2.1
                have hm := HM.out
                subst hm
                have hl1 : (t.kids.map Node.inv).length = t.kids.length := by simp
                have hl2 : hs.length = t.kids.length := by rw [← R2.1]; exact HLQ.out
                refine ⟨i + 1, _, _, hlt3, by go_num, ?_, ?_, Z.drew⟩
                · have e := R1.step (by rw [hl1]; exact hmi) hic (by rw [hl1]; exact hmc)
                  simp only [hl1] at e
                  exact e
                · have e := R2.step (by rw [hl2]; exact hmi) hiq (by rw [hl2]; exact hmq)
                  simp only [hl2] at e
                  exact e
              case measure => simp [intOf]; omega
            · have hge : ¬ ((i : Int) < (t.kids.length : Int) - 1 - (i : Int)) := by omega
              go_wp2_with fail
              go_end0
              have e := HR.out.1.done (by simpa using hlt2)
              exact ⟨rfl, hcur, by rw [← e]; exact HR.out.2.2⟩
end Go.Proofs.YtgjanglonccclaaDoor

/- Contracts of inverter.invert, inverted and Stmt. -/
namespace Go.Proofs.YtgjanglonccclaaDoor
open Go.RowKit
set_option linter.unusedVariables false
set_option linter.unusedSimpArgs false

theorem invert_any (t : Node) : (t.isStmt = true ∨ t.isBlock = true) → InvRuns t := by
  induction t using Node.ind with
  | h t ih =>
  intro hs ⟨A, c, F⟩ b o w ho hF hfr c0 c1 c2 c3
  have hfit := (Node.Own_eq.1 ho).1
  obtain ⟨_, hlen, hd, P⟩ := Node.Own_eq.1 ho
  have hl : (t.kids.length : Int) ≤ 2513169434916 := by omega
  have hp : InvPre w t ⟨A, c, F⟩ b o hd := ⟨P, hF, hfr, c0, c1, c2, c3⟩
  have hr := invKind_range hfit.kind0 hfit.kind1
  have fin : ∀ (w' : World) (ks : List Node) (hs' : List Hdr), InvState w w' t ⟨A, c, F⟩ b o ks hs' → t.inv = ⟨invKind t.kind, t.num, t.name, ks⟩ →
      Turned w w' b o (.int .u8 (invKind t.kind)) F ∧ t.inv.Own w' ⟨A, c, F⟩ := fun w' ks hs' S e => by
    refine ⟨S.turned, ?_⟩
    rw [e, Node.Own_eq]
    exact ⟨⟨hr.1, hr.2, hfit.num0, hfit.num1, hfit.name⟩, by have := S.len; simp only; omega, hs', S.parts⟩
  have hB : ∀ k ∈ t.kids, (k.kind == 57) = true → t.isStmt = true → InvRuns k := fun k hk h57 hst => ih k hk (.inr (isStmt_kids hst k hk h57))
  have he := t.inv_eq
  rcases hs with hst | hbl
  · have hn57 := isStmt_kind hst
    by_cases h4 : t.kind = 52 ∨ t.kind = 53
    · have e : invKind t.kind = t.kind := invKind_fixed _ (by omega)
      refine (invert_swap4 t (fun k hk h57 => hB k hk h57 hst) (by rw [e]; simpa using h4) (isStmt_four hst h4) A c F b o w hd hp hl).mono ?_
      rintro e1 w' ⟨rfl, hs', S⟩
      refine ⟨rfl, fin w' _ _ S ?_⟩
      rw [he, invBlocks_map]
      rcases h4 with h4 | h4 <;> simp [h4]
    · by_cases h3 : t.kind = 54
      · have e : invKind t.kind = t.kind := invKind_fixed _ (by omega)
        refine (invert_swap3 t (fun k hk h57 => hB k hk h57 hst) (by rw [e]; simpa using h3) (isStmt_three hst h3) A c F b o w hd hp hl).mono ?_
        rintro e1 w' ⟨rfl, hs', S⟩
        refine ⟨rfl, fin w' _ _ S ?_⟩
        rw [he, invBlocks_map]
        simp [h3]
      · have q : ∀ m : Int, (m = 52 ∨ m = 53 ∨ m = 54 ∨ m = 57) → (invKind t.kind == m) = false := fun m hm => by
          rw [beq_eq_false_iff_ne]
          intro e
          have := invKind_back _ _ hm e
          rw [beq_eq_false_iff_ne] at hn57
          omega
        refine (invert_plain t (fun k hk h57 => hB k hk h57 hst) (q 52 (by omega)) (q 53 (by omega)) (q 54 (by omega)) (q 57 (by omega)) A c F b o w hd hp hl).mono ?_
        rintro e1 w' ⟨rfl, S⟩
        refine ⟨rfl, fin w' _ _ S ?_⟩
        rw [he, invBlocks_map, hn57]
        have h1 : (t.kind == 52 || (t.kind == 53 || t.kind == 54)) = false := by simp; omega
        rw [h1]; rfl
  · have h57 := isBlock_kind hbl
    have e : invKind t.kind = t.kind := invKind_fixed _ (by simp at h57; omega)
    refine (invert_block t (fun k hk => ih k hk (.inl (isBlock_kids hbl k hk))) (fun k hk => isStmt_kind (isBlock_kids hbl k hk)) (by rw [e]; exact h57) A c F b o w hd hp hl).mono ?_
    rintro e1 w' ⟨rfl, hs', S⟩
    refine ⟨rfl, fin w' _ _ S ?_⟩
    rw [he, invAll_map, h57]; rfl

theorem inverted_any (t : Node) (ht : t.isStmt = true ∨ t.isBlock = true) (A : Option Addr) (c : Nat) (w : World) (ok : Nat → Prop) (h : t.In w ok A c) :
    Calls Tryd.prog 41 #[.agg #[.int .u8 t.kind, .int .i64 t.num, .string t.name, .slice A t.kids.length c]] w (Fresh w t.inv) := by
  have HC := Hd.mk (fun W (hb : Below w.heap.size w W) => clone_any t A c W ok (h.below hb))
  have HI := Hd.mk (invert_any t ht)
  clear h ht
  go_enter Tryd.func41, Tryd.ntmps41
  go_wp2_with (go_at_call 21; refine (HC.out _ (ext_alloc (ext_alloc (Below.refl _ _) _) _)).mono ?_; rintro e w1 ⟨A1, c1, rfl, hb, ho⟩)
  have HO := Hd.mk (Node.Own.tight _ ho)
  have hs1 : w.heap.size + 2 ≤ w1.heap.size := by have := hb.size; simpa using this
  have hRes : w1.heap[w.heap.size + 1]? = some (.cells #[.int .u8 0, .int .i64 0, .string ⟨#[]⟩, .slice none 0 0] 24) := by
    rw [hb.block _ (by simp)]
    have := (Go.MapKept.heap_alloc (w.alloc (.cells #[.int .u8 t.kind, .int .i64 t.num, .string t.name, .slice A t.kids.length c] 24)) (.cells #[.int .u8 0, .int .i64 0, .string ⟨#[]⟩, .slice none 0 0] 24)).1
    rw [World.size_alloc] at this
    exact this
  clear ho
  have nF : ¬ (Hdr.tight w1 ⟨A1, c1, fun x => ((w.alloc (.cells #[.int .u8 t.kind, .int .i64 t.num, .string t.name, .slice A t.kids.length c] 24)).alloc (.cells #[.int .u8 0, .int .i64 0, .string ⟨#[]⟩, .slice none 0 0] 24)).heap.size ≤ x⟩).F w1.heap.size := fun h => by have := h.2; omega
  have q := four_cells (Go.MapKept.heap_alloc w1 (.cells #[.int .u8 t.kind, .int .i64 t.num, .string t.name, .slice A1 t.kids.length c1] 24)).1
  refine (HI.out _ w1.heap.size 0 _ (HO.out.below (ext_alloc (Below.refl _ _) _)) nF (blk_free (Go.MapKept.heap_alloc w1 _).1 0) q.1 q.2.1 q.2.2.1 q.2.2.2).mono ?_
  rintro e w2 ⟨rfl, hT, hO2⟩
  have x0 := hT.cell_at nF q.1
  have x1 := hT.cell nF (by omega) q.2.1
  have x2 := hT.cell nF (by omega) q.2.2.1
  have x3 := hT.cell nF (by omega) q.2.2.2
  have hsz := hT.size
  have hR : w2.heap[w.heap.size + 1]? = some (.cells #[.int .u8 0, .int .i64 0, .string ⟨#[]⟩, .slice none 0 0] 24) := by
    rw [hT.other (by simp; omega) (by omega) (fun h => by have := h.1; simp at this; omega), (Go.MapKept.heap_alloc w1 _).2 _ (by omega)]
    exact hRes
  obtain ⟨y0, y1, y2, y3⟩ := four_cells hR
  have f0 := blk_free hR 0
  have f1 := blk_free hR 1
  have f2 := blk_free hR 2
  have f3 := blk_free hR 3
  have HR := Hd.mk hR
  have HT := Hd.mk hT
  have HO2 := Hd.mk hO2
  have HB := Hd.mk hb
  clear hR q hRes HO HC HI hT hO2 hb
  go_wp2_with fail
  refine bodyPost_ret (v := .agg #[.int .u8 t.inv.kind, .int .i64 t.inv.num, .string t.inv.name, .slice A1 t.inv.kids.length c1]) ?_ rfl ⟨A1, c1, rfl, ?_, ?_⟩
  · rw [Node.inv_kind, Node.inv_num, Node.inv_name, Node.inv_kids_length]
    have hc := res_cells (u0 := .int .u8 (invKind t.kind)) (u1 := .int .i64 t.num) (u2 := .string t.name) (u3 := .slice A1 t.kids.length c1) HR.out
    simp [results, Tryd.results41, go_sem, hc]
  · refine res_below ?_ (by omega) _ _ _ _
    have b1 := ext_alloc (ext_trans (ext_alloc (ext_alloc (Below.refl w.heap.size w) _) _) HB.out) (.cells #[.int .u8 t.kind, .int .i64 t.num, .string t.name, .slice A1 t.kids.length c1] 24)
    exact b1.trans (HT.out.keeps (by omega) (fun x hx => by have := hx.1; simp at this; omega) (by simp; omega))
  · exact Node.Own.mono (res_own HO2.out (fun h => by have := h.1; simp at this; omega)) (fun x hx => by have := hx.1; simp at this; omega)

/-- What Stmt returns of a statement or block. -/
def InvRet (w : World) (t : Node) (e : Ending) (w' : World) : Prop :=
  ∃ A c, e = .returned (.tuple #[.agg #[.int .u8 t.kind, .int .i64 t.num, .string t.name, .slice A t.kids.length c], .int .i64 0]) ∧ Below w.heap.size w w' ∧ t.Own w' ⟨A, c, fun x => w.heap.size ≤ x⟩
set_option maxHeartbeats 1000000 in
theorem invStmt_any (t : Node) (ht : t.isStmt = true ∨ t.isBlock = true) (A : Option Addr) (c : Nat) (w : World) (ok : Nat → Prop) (hw : Good w) (h : t.In w ok A c) :
    Calls Tryd.prog 16 #[.agg #[.int .u8 t.kind, .int .i64 t.num, .string t.name, .slice A t.kids.length c]] w (InvRet w t.inv) := by
  have HS := Hd.mk (fun W (hb : Below w.heap.size w W) => isStmt_any t A c W ok (hw.below hb) (h.below hb))
  have HB := Hd.mk (fun W (hb : Below w.heap.size w W) => isBlock_any t A c W ok (hw.below hb) (h.below hb))
  have HI := Hd.mk (fun W (hb : Below w.heap.size w W) => inverted_any t ht A c W ok (h.below hb))
  have B0 := Hd.mk (Boxes.start w t A c)
  clear hw h
  cases hs : t.isStmt
  · have hbk : t.isBlock = true := by
      rcases ht with h | h
      · rw [hs] at h; cases h
      · exact h
    rw [hs] at HS
    rw [hbk] at HB
    clear hs hbk ht
    go_enter Tryd.func16, Tryd.ntmps16
    go_wp2_with fail
    refine (HS.out _ B0.out.below).mono ?_
    rintro e w1 ⟨rfl, hb⟩
    have B1 := Hd.mk (B0.out.next hb)
    obtain ⟨⟨x0, x1, x2, x3⟩, ⟨y0, y1, y2, y3⟩, ⟨f0, f1, f2, f3⟩, hz⟩ := B1.out.facts
    go_wp2_with fail
    refine (HB.out _ B1.out.below).mono ?_
    rintro e w2 ⟨rfl, hb2⟩
    have B2 := Hd.mk (B1.out.next hb2)
    obtain ⟨⟨x0, x1, x2, x3⟩, ⟨y0, y1, y2, y3⟩, ⟨f0, f1, f2, f3⟩, hz⟩ := B2.out.facts
    go_wp2_with fail
    refine (HI.out _ B2.out.below).mono ?_
    rintro e w3 ⟨A3, c3, rfl, hb3, ho3⟩
    have B3 := Hd.mk (B2.out.next hb3)
    have HO := Hd.mk (B2.out.out hb3 ho3 (.int .u8 t.inv.kind) (.int .i64 t.inv.num) (.string t.inv.name) (.slice A3 t.inv.kids.length c3))
    obtain ⟨⟨x0, x1, x2, x3⟩, ⟨y0, y1, y2, y3⟩, ⟨f0, f1, f2, f3⟩, hz⟩ := B3.out.facts
    clear ho3 hb3 hb hb2
    go_wp2_with fail
    refine bodyPost_ret (v := .tuple #[.agg #[.int .u8 t.inv.kind, .int .i64 t.inv.num, .string t.inv.name, .slice A3 t.inv.kids.length c3], .int .i64 0]) ?_ rfl ⟨A3, c3, rfl, HO.out.1, HO.out.2⟩
    have hc := res_cells (u0 := .int .u8 t.inv.kind) (u1 := .int .i64 t.inv.num) (u2 := .string t.inv.name) (u3 := .slice A3 t.inv.kids.length c3) B3.out.res
    simp [results, Tryd.results16, go_sem, hc]
  · rw [hs] at HS
    clear hs ht
    go_enter Tryd.func16, Tryd.ntmps16
    go_wp2_with fail
    refine (HS.out _ B0.out.below).mono ?_
    rintro e w1 ⟨rfl, hb⟩
    have B1 := Hd.mk (B0.out.next hb)
    obtain ⟨⟨x0, x1, x2, x3⟩, ⟨y0, y1, y2, y3⟩, ⟨f0, f1, f2, f3⟩, hz⟩ := B1.out.facts
    go_wp2_with fail
    refine (HI.out _ B1.out.below).mono ?_
    rintro e w3 ⟨A3, c3, rfl, hb3, ho3⟩
    have B3 := Hd.mk (B1.out.next hb3)
    have HO := Hd.mk (B1.out.out hb3 ho3 (.int .u8 t.inv.kind) (.int .i64 t.inv.num) (.string t.inv.name) (.slice A3 t.inv.kids.length c3))
    obtain ⟨⟨x0, x1, x2, x3⟩, ⟨y0, y1, y2, y3⟩, ⟨f0, f1, f2, f3⟩, hz⟩ := B3.out.facts
    clear ho3 hb3 hb
    go_wp2_with fail
    refine bodyPost_ret (v := .tuple #[.agg #[.int .u8 t.inv.kind, .int .i64 t.inv.num, .string t.inv.name, .slice A3 t.inv.kids.length c3], .int .i64 0]) ?_ rfl ⟨A3, c3, rfl, HO.out.1, HO.out.2⟩
    have hc := res_cells (u0 := .int .u8 t.inv.kind) (u1 := .int .i64 t.inv.num) (u2 := .string t.inv.name) (u3 := .slice A3 t.inv.kids.length c3) B3.out.res
    simp [results, Tryd.results16, go_sem, hc]
end Go.Proofs.YtgjanglonccclaaDoor

/- Simplifying blocks, as plain Lean. No program in sight. -/
namespace Go.Proofs.YtgjanglonccclaaDoor
open Go.RowKit
set_option linter.unusedVariables false
set_option linter.unusedSimpArgs false

/-- Do two statements cancel? -/
def cancelsB (a b : Node) : Bool := a.isStmt && (b.isStmt && (!(a.kind == 56) && a.inv.eqB b))
/-- A statement behind the statements so far: the two that cancel fall away. -/
def pushC (acc : List Node) (s : Node) : List Node :=
  match acc.getLast? with
  | some l => if cancelsB l s then acc.dropLast else acc ++ [s]
  | none => acc ++ [s]
mutual
/-- The simplified form of a block. -/
def Node.simp : Node → Node
  | ⟨_, _, _, ks⟩ => ⟨57, 0, ⟨#[]⟩, simpAll [] ks⟩
/-- A statement whose blocks are simplified. -/
def Node.eachS : Node → Node
  | ⟨k, n, s, ks⟩ => ⟨k, n, s, simpKids ks⟩
def simpKids : List Node → List Node
  | [] => []
  | k :: ks => (if k.kind == 57 then k.simp else k) :: simpKids ks
def simpAll : List Node → List Node → List Node
  | acc, [] => acc
  | acc, k :: ks => simpAll (pushC acc k.eachS) ks
end
def simpB (t : Node) : Node := if t.kind == 57 then t.simp else t
theorem Node.simp_eq (t : Node) : t.simp = ⟨57, 0, ⟨#[]⟩, simpAll [] t.kids⟩ := by cases t; simp only [Node.simp]
theorem simpKids_map (l : List Node) : simpKids l = l.map simpB := by
  induction l with
  | nil => rfl
  | cons a l ih => simp [simpKids, simpB, ih]
theorem Node.eachS_eq (t : Node) : t.eachS = ⟨t.kind, t.num, t.name, t.kids.map simpB⟩ := by cases t; simp only [Node.eachS, simpKids_map]
theorem simpAll_drop {ks : List Node} {j : Nat} (h : j < ks.length) (acc : List Node) : simpAll acc (ks.drop j) = simpAll (pushC acc ks[j].eachS) (ks.drop (j + 1)) := by
  rw [List.drop_eq_getElem_cons h, simpAll]
theorem simpAll_foldl (acc ks : List Node) : simpAll acc ks = ks.foldl (fun a k => pushC a k.eachS) acc := by
  induction ks generalizing acc with
  | nil => rfl
  | cons k ks ih => simp [simpAll, ih]
theorem pushC_length (acc : List Node) (s : Node) : (pushC acc s).length ≤ acc.length + 1 := by
  unfold pushC
  split
  · split <;> simp <;> omega
  · simp
theorem simpAll_length (ks : List Node) : ∀ acc : List Node, (simpAll acc ks).length ≤ acc.length + ks.length := by
  induction ks with
  | nil => intro acc; simp [simpAll]
  | cons k ks ih =>
    intro acc
    have := ih (pushC acc k.eachS)
    have := pushC_length acc k.eachS
    simp only [simpAll, List.length_cons]
    omega
end Go.Proofs.YtgjanglonccclaaDoor

/- Contract of simplify.Cancels. -/
namespace Go.Proofs.YtgjanglonccclaaDoor
open Go.RowKit
set_option linter.unusedVariables false
set_option linter.unusedSimpArgs false

/-- Two boxed nodes. -/
structure Boxes2 (w W : World) (t : Node) (A : Option Addr) (c : Nat) (u : Node) (B : Option Addr) (d : Nat) : Prop where
  below : Below w.heap.size w W
  size : w.heap.size + 2 ≤ W.heap.size
  box : W.heap[w.heap.size]? = some (.cells #[.int .u8 t.kind, .int .i64 t.num, .string t.name, .slice A t.kids.length c] 24)
  box2 : W.heap[w.heap.size + 1]? = some (.cells #[.int .u8 u.kind, .int .i64 u.num, .string u.name, .slice B u.kids.length d] 24)
theorem Boxes2.start (w : World) (t : Node) (A : Option Addr) (c : Nat) (u : Node) (B : Option Addr) (d : Nat) : Boxes2 w ((w.alloc (.cells #[.int .u8 t.kind, .int .i64 t.num, .string t.name, .slice A t.kids.length c] 24)).alloc (.cells #[.int .u8 u.kind, .int .i64 u.num, .string u.name, .slice B u.kids.length d] 24)) t A c u B d := by
  refine ⟨ext_alloc (ext_alloc (Below.refl _ _) _) _, by simp, ?_, ?_⟩
  · rw [(Go.MapKept.heap_alloc _ _).2 _ (by simp)]; exact (Go.MapKept.heap_alloc w _).1
  · have := (Go.MapKept.heap_alloc (w.alloc (.cells #[.int .u8 t.kind, .int .i64 t.num, .string t.name, .slice A t.kids.length c] 24)) (.cells #[.int .u8 u.kind, .int .i64 u.num, .string u.name, .slice B u.kids.length d] 24)).1
    rw [World.size_alloc] at this
    exact this
theorem Boxes2.next {w W W2 : World} {t : Node} {A : Option Addr} {c : Nat} {u : Node} {B : Option Addr} {d : Nat} (X : Boxes2 w W t A c u B d) (h : Below W.heap.size W W2) : Boxes2 w W2 t A c u B d :=
  ⟨ext_trans X.below h, Nat.le_trans X.size h.size, by rw [h.block _ (by have := X.size; omega)]; exact X.box, by rw [h.block _ (by have := X.size; omega)]; exact X.box2⟩
theorem Boxes2.facts {w W : World} {t : Node} {A : Option Addr} {c : Nat} {u : Node} {B : Option Addr} {d : Nat} (X : Boxes2 w W t A c u B d) :
    (W.cell? ⟨w.heap.size, 0, none⟩ = some (.int .u8 t.kind) ∧ W.cell? ⟨w.heap.size, 1, none⟩ = some (.int .i64 t.num) ∧ W.cell? ⟨w.heap.size, 2, none⟩ = some (.string t.name) ∧ W.cell? ⟨w.heap.size, 3, none⟩ = some (.slice A t.kids.length c)) ∧
    (W.cell? ⟨w.heap.size + 1, 0, none⟩ = some (.int .u8 u.kind) ∧ W.cell? ⟨w.heap.size + 1, 1, none⟩ = some (.int .i64 u.num) ∧ W.cell? ⟨w.heap.size + 1, 2, none⟩ = some (.string u.name) ∧ W.cell? ⟨w.heap.size + 1, 3, none⟩ = some (.slice B u.kids.length d)) ∧ w.heap.size + 1 < W.heap.size :=
  ⟨four_cells X.box, four_cells X.box2, X.size⟩

set_option maxHeartbeats 1000000 in
theorem cancels_any (a b : Node) (A B : Option Addr) (c d : Nat) (w : World) (ok ok' : Nat → Prop) (hw : Good w) (ha : a.In w ok A c) (hb : b.In w ok' B d) :
    Calls Tryd.prog 14 #[.agg #[.int .u8 a.kind, .int .i64 a.num, .string a.name, .slice A a.kids.length c], .agg #[.int .u8 b.kind, .int .i64 b.num, .string b.name, .slice B b.kids.length d]] w fun e w' => e = .returned (.bool (cancelsB a b)) ∧ Below w.heap.size w w' := by
  have H1 := Hd.mk (fun W (h : Below w.heap.size w W) => isStmt_any a A c W ok (hw.below h) (ha.below h))
  have H2 := Hd.mk (fun W (h : Below w.heap.size w W) => isStmt_any b B d W ok' (hw.below h) (hb.below h))
  have B0 := Hd.mk (Boxes2.start w a A c b B d)
  have HX := Hd.mk (show cancelsB a b = (a.isStmt && (b.isStmt && (!(a.kind == 56) && a.inv.eqB b))) from rfl)
  have HBr := Hd.mk (fun W (h : Below w.heap.size w W) => hb.below h)
  cases h1 : a.isStmt
  · rw [h1] at H1
    clear hw ha hb
    go_enter Tryd.func14, Tryd.ntmps14
    go_wp2_with fail
    refine (H1.out _ B0.out.below).mono ?_
    rintro e w1 ⟨rfl, hb1⟩
    go_wp2_with fail
    go_ret
    exact ⟨ret_bool (by rw [HX.out, h1]; rfl), ext_trans B0.out.below hb1⟩
  · rw [h1] at H1
    cases h2 : b.isStmt
    · rw [h2] at H2
      clear hw ha hb
      go_enter Tryd.func14, Tryd.ntmps14
      go_wp2_with fail
      refine (H1.out _ B0.out.below).mono ?_
      rintro e w1 ⟨rfl, hb1⟩
      have B1 := Hd.mk (B0.out.next hb1)
      obtain ⟨⟨x0, x1, x2, x3⟩, ⟨y0, y1, y2, y3⟩, hz⟩ := B1.out.facts
      go_wp2_with fail
      refine (H2.out _ B1.out.below).mono ?_
      rintro e w2 ⟨rfl, hb2⟩
      go_wp2_with fail
      go_ret
      exact ⟨ret_bool (by rw [HX.out, h1, h2]; rfl), ext_trans B1.out.below hb2⟩
    · rw [h2] at H2
      cases h3 : (a.kind == 56)
      · have HI := Hd.mk (fun W (h : Below w.heap.size w W) => invStmt_any a (.inl h1) A c W ok (hw.below h) (ha.below h))
        clear hw ha hb
        go_enter Tryd.func14, Tryd.ntmps14
        go_wp2_with fail
        refine (H1.out _ B0.out.below).mono ?_
        rintro e w1 ⟨rfl, hb1⟩
        have B1 := Hd.mk (B0.out.next hb1)
        obtain ⟨⟨x0, x1, x2, x3⟩, ⟨y0, y1, y2, y3⟩, hz⟩ := B1.out.facts
        go_wp2_with fail
        refine (H2.out _ B1.out.below).mono ?_
        rintro e w2 ⟨rfl, hb2⟩
        have B2 := Hd.mk (B1.out.next hb2)
        obtain ⟨⟨x0, x1, x2, x3⟩, ⟨y0, y1, y2, y3⟩, hz⟩ := B2.out.facts
        go_wp2_with fail
        refine (HI.out _ B2.out.below).mono ?_
        rintro e w3 ⟨A3, c3, rfl, hb3, ho3⟩
        have B3 := Hd.mk (B2.out.next hb3)
        have B4 := Hd.mk (B3.out.next (ext_alloc (Below.refl _ _) (.cells #[.int .u8 a.inv.kind, .int .i64 a.inv.num, .string a.inv.name, .slice A3 a.inv.kids.length c3] 24)))
        obtain ⟨⟨x0, x1, x2, x3⟩, ⟨y0, y1, y2, y3⟩, hz⟩ := B3.out.facts
        have HO := Hd.mk (ho3.below (ext_alloc (Below.refl _ _) (.cells #[.int .u8 a.inv.kind, .int .i64 a.inv.num, .string a.inv.name, .slice A3 a.inv.kids.length c3] 24)))
        clear ho3 hb1 hb2 hb3
        go_wp2_with fail
        refine (equal_any a.inv b A3 B c3 d _ _ _ (Node.Own.reads _ HO.out) (HBr.out _ B4.out.below)).mono ?_
        rintro e w4 ⟨rfl, hb4⟩
        go_wp2_with fail
        go_ret
        exact ⟨ret_bool (by rw [HX.out, h1, h2, h3]; simp), ext_trans B4.out.below hb4⟩
      · clear hw ha hb
        go_enter Tryd.func14, Tryd.ntmps14
        go_wp2_with fail
        refine (H1.out _ B0.out.below).mono ?_
        rintro e w1 ⟨rfl, hb1⟩
        have B1 := Hd.mk (B0.out.next hb1)
        obtain ⟨⟨x0, x1, x2, x3⟩, ⟨y0, y1, y2, y3⟩, hz⟩ := B1.out.facts
        go_wp2_with fail
        refine (H2.out _ B1.out.below).mono ?_
        rintro e w2 ⟨rfl, hb2⟩
        have B2 := Hd.mk (B1.out.next hb2)
        obtain ⟨⟨x0, x1, x2, x3⟩, ⟨y0, y1, y2, y3⟩, hz⟩ := B2.out.facts
        go_wp2_with fail
        go_ret
        exact ⟨ret_bool (by rw [HX.out, h1, h2, h3]; rfl), ext_trans B1.out.below hb2⟩
end Go.Proofs.YtgjanglonccclaaDoor

/- Contract of simplify.each. -/
namespace Go.Proofs.YtgjanglonccclaaDoor
open Go.RowKit
set_option linter.unusedVariables false
set_option linter.unusedSimpArgs false

def SimRuns (t : Node) : Prop := ∀ (A : Option Addr) (c : Nat) (w : World) (ok : Nat → Prop), Good w → t.In w ok A c → Calls Tryd.prog 42 #[.agg #[.int .u8 t.kind, .int .i64 t.num, .string t.name, .slice A t.kids.length c]] w (Fresh w t.simp)
theorem goes_block : Goes 42 := goes_of Tryd.func42 (by kernel_rfl) rfl

structure EachInv (w W : World) (t : Node) (A : Option Addr) (c : Nat) (Bo : Nat) (A2 : Option Addr) (c2 : Nat) (cur : List Node) : Prop where
  boxes : Boxes w W t A c
  lo : w.heap.size + 2 ≤ Bo
  hi : Bo < W.heap.size
  out : W.heap[Bo]? = some (.cells #[.int .u8 t.kind, .int .i64 t.num, .string t.name, .slice A2 t.kids.length c2] 24)
  parts : ∃ hs, OwnParts W cur ⟨A2, c2, fun x => w.heap.size + 2 ≤ x ∧ x ≠ Bo⟩ hs
theorem EachInv.next {w W W2 : World} {t : Node} {A : Option Addr} {c : Nat} {Bo : Nat} {A2 : Option Addr} {c2 : Nat} {cur : List Node} (E : EachInv w W t A c Bo A2 c2 cur) (h : Below W.heap.size W W2) : EachInv w W2 t A c Bo A2 c2 cur := by
  obtain ⟨hs, p⟩ := E.parts
  exact ⟨E.boxes.next h, E.lo, Nat.lt_of_lt_of_le E.hi h.size, by rw [h.block _ E.hi]; exact E.out, hs, p.below h⟩
theorem EachInv.len {w W : World} {t : Node} {A : Option Addr} {c : Nat} {Bo : Nat} {A2 : Option Addr} {c2 : Nat} {cur : List Node} (E : EachInv w W t A c Bo A2 c2 cur) (hl : cur.length = t.kids.length) (j : Nat) (hj : j < t.kids.length) :
    ∃ g, A2 = some ⟨g, 0, none⟩ ∧ g < W.heap.size ∧ w.heap.size + 2 ≤ g ∧ g ≠ Bo ∧ (∀ i, W.frozen? ⟨g, i, none⟩ = false) ∧ (∃ v0 v1 v2 v3, W.cell? ⟨g, j * 4, none⟩ = some v0 ∧ W.cell? ⟨g, j * 4 + 1, none⟩ = some v1 ∧ W.cell? ⟨g, j * 4 + 2, none⟩ = some v2 ∧ W.cell? ⟨g, j * 4 + 3, none⟩ = some v3) := by
  obtain ⟨hs, p⟩ := E.parts
  obtain ⟨g, h2, hA, hF, hg, hf, e0, e1, e2, e3, e4⟩ := p.at_ j (by omega)
  exact ⟨g, hA, hg, hF.1, hF.2, hf, _, _, _, _, e0, e1, e2, e3⟩

theorem EachInv.put {w W W2 : World} {t : Node} {A : Option Addr} {c : Nat} {Bo : Nat} {A2 : Option Addr} {c2 : Nat} {cur : List Node} (E : EachInv w W t A c Bo A2 c2 cur) (hb : Below W.heap.size W W2) {g : Nat} (hA : A2 = some ⟨g, 0, none⟩) (hg : w.heap.size + 2 ≤ g) (hgB : g ≠ Bo) (j : Nat) (hj : j < cur.length)
    (u : Node) {A3 : Option Addr} {c3 N : Nat} (hN : W.heap.size ≤ N) (ho : u.Own W2 ⟨A3, c3, fun x => N ≤ x⟩) : EachInv w (set4 W2 g (j * 4) u ⟨A3, c3, fun x => N ≤ x⟩) t A c Bo A2 c2 (cur.set j u) := by
  obtain ⟨hs, p⟩ := E.parts
  have B := E.boxes.next hb
  have hi := E.hi
  have lo := E.lo
  have hsz := hb.size
  have p2 := p.tight.below hb
  have p3 := p2.put hA j hj u ⟨A3, c3, fun x => N ≤ x⟩ ho (fun x hx hF => by have h1 : N ≤ x := hx; have := hF.2; omega)
  refine ⟨⟨set4_below B.below (by omega) _ _, by rw [set4_size]; exact B.size, by rw [set4_other (by omega)]; exact B.box, by rw [set4_other (by omega)]; exact B.res⟩, lo, by rw [set4_size]; omega, by rw [set4_other (by omega), hb.block _ hi]; exact E.out, _, p3.mono (fun x hx => ?_)⟩
  rcases hx with hx | hx
  · exact hx.1
  · have h1 : N ≤ x := hx; omega

set_option maxHeartbeats 4000000 in
set_option maxRecDepth 100000 in
theorem each_any (t : Node) (ih : ∀ k ∈ t.kids, (k.kind == 57) = true → SimRuns k) (A : Option Addr) (c : Nat) (w : World) (ok : Nat → Prop) (hw : Good w) (h : t.In w ok A c) :
    Calls Tryd.prog 61 #[.agg #[.int .u8 t.kind, .int .i64 t.num, .string t.name, .slice A t.kids.length c], .func (.func 42) #[] #[]] w (Fresh w t.eachS) := by
  have HC := Hd.mk (fun W (hb : Below w.heap.size w W) => clone_any t A c W ok (h.below hb))
  have B0 := Hd.mk (Boxes.start w t A c)
  have H := Hd.mk h
  have HW := Hd.mk hw
  have IH := Hd.mk ih
  have hl := h.lenZ
  have hgo := goes_block
  unfold Goes at hgo
  clear h hw ih
  go_enter Tryd.func61, Tryd.ntmps61
  go_wp2_with fail
  refine (HC.out _ B0.out.below).mono ?_
  rintro e w1 ⟨A2, c2, rfl, hb1, ho1⟩
  have B1 := Hd.mk (B0.out.next hb1)
  have B2 := Hd.mk (B1.out.next (ext_alloc (Below.refl _ _) (.cells #[.int .u8 t.kind, .int .i64 t.num, .string t.name, .slice A2 t.kids.length c2] 24)))
  have E0 : EachInv w (w1.alloc (.cells #[.int .u8 t.kind, .int .i64 t.num, .string t.name, .slice A2 t.kids.length c2] 24)) t A c w1.heap.size A2 c2 t.kids := by
    have hs := B1.out.size
    obtain ⟨hfit, hlen, hd, p⟩ := Node.Own_eq.1 (Node.Own.tight _ ho1)
    refine ⟨B2.out, by omega, by simp, (Go.MapKept.heap_alloc w1 _).1, hd, ?_⟩
    exact (p.below (ext_alloc (Below.refl _ _) _)).mono (fun x hx => ⟨by have := hx.1; simp at this; omega, by have := hx.2; omega⟩)
  have HE := Hd.mk E0
  obtain ⟨⟨x0, x1, x2, x3⟩, _⟩ := B1.out.facts
  have hz : w.heap.size < w1.heap.size := by have := B1.out.size; omega
  clear E0 ho1 hb1
  go_wp2_with fail
  go_loopw [6, 7, 13] (fun v6 v7 v13 W => ∃ j : Nat, j ≤ t.kids.length ∧ v13 = .int .i64 j ∧ EachInv w W t A c w1.heap.size A2 c2 (mixAt simpB t.kids j)) (fun _ _ v13 _ => t.kids.length - (intOf v13).toNat)
  case atStart => exact ⟨0, Nat.zero_le _, rfl, by rw [mixAt_zero]; exact HE.out⟩
  case round =>
    obtain ⟨j, hj, rfl, E⟩ := hrel
    by_cases hlt : j < t.kids.length
    · obtain ⟨b, o, A1, c1, rfl, e0, e1, e2, e3, h4⟩ := (H.out.below E.boxes.below).at_ j hlt
      cases hkj : (t.kids[j].kind == 57)
      · go_wp2_with fail
        go_roundw
        case rel =>
          refine ⟨j + 1, hlt, by go_num, ?_⟩
          rw [← mixAt_skip simpB t.kids j hlt (by simp [simpB, hkj])]
          exact E.next (ext_alloc (Below.refl _ _) _)
        case measure => simp [intOf]; omega
      · obtain ⟨g, rfl, hg, hg2, hgB, hfr, v0, v1, v2, v3, q0, q1, q2, q3⟩ := E.len (mixAt_length _ _ _) j hlt
        obtain ⟨o0, o1, o2, o3⟩ := four_cells E.out
        have HI := Hd.mk (IH.out t.kids[j] (List.getElem_mem _) hkj)
        have r0 := hfr (j * 4)
        have r1 := hfr (j * 4 + 1)
        have r2 := hfr (j * 4 + 2)
        have r3 := hfr (j * 4 + 3)
        have HE2 := Hd.mk E
        have hBo := E.hi
        have hlo := E.lo
        have HFR := Hd.mk hfr
        have j0 : (0 : Int) ≤ (j : Int) := by omega
        have j1 : (j : Int) < (t.kids.length : Int) := by omega
        clear E hfr
        go_wp2_with fail
        have hgw : g ≠ wr.heap.size := by omega
        go_region_held3 (fun W' => W'.cell? ⟨w1.heap.size, 3, none⟩ = some (.slice (some ⟨g, 0, none⟩) t.kids.length c2) ∧ W'.cell? ⟨wr.heap.size, 0, none⟩ = some (.int .u8 t.kids[j].kind) ∧ W'.cell? ⟨wr.heap.size, 1, none⟩ = some (.int .i64 t.kids[j].num) ∧
          W'.cell? ⟨wr.heap.size, 2, none⟩ = some (.string t.kids[j].name) ∧ W'.cell? ⟨wr.heap.size, 3, none⟩ = some (.slice A1 t.kids[j].kids.length c1))
          (go_keep)
          (first
            | (go_at_call 42; refine (HI.out A1 c1 _ ok (HW.out.below (ext_trans HE2.out.boxes.below ((ext_alloc (Below.refl _ _) _).drew))) (h4.below ((ext_alloc (Below.refl _ _) _).drew))).mono ?_; rintro e w2 ⟨A3, c3, rfl, hb2, ho2⟩; have hbw : Below wr.heap.size wr w2 := ext_trans ((ext_alloc (Below.refl _ _) _).drew) hb2; have y0 := (hbw.cell (p := ⟨w1.heap.size, 3, none⟩) hBo).trans o3; obtain ⟨z0, z1, z2, z3⟩ := box_cells (ext_trans ((Below.refl _ _).drew) hb2); have s0 := (hbw.cell (p := ⟨g, j * 4, none⟩) hg).trans q0; have s1 := (hbw.cell (p := ⟨g, j * 4 + 1, none⟩) hg).trans q1; have s2 := (hbw.cell (p := ⟨g, j * 4 + 2, none⟩) hg).trans q2; have s3 := (hbw.cell (p := ⟨g, j * 4 + 3, none⟩) hg).trans q3; have t0 := (hbw.frozen (p := ⟨g, j * 4, none⟩) hg).trans r0; have t1 := (hbw.frozen (p := ⟨g, j * 4 + 1, none⟩) hg).trans r1; have t2 := (hbw.frozen (p := ⟨g, j * 4 + 2, none⟩) hg).trans r2; have t3 := (hbw.frozen (p := ⟨g, j * 4 + 3, none⟩) hg).trans r3))
        go_wp2_with fail
        go_roundw
        case rel =>
          refine ⟨j + 1, hlt, by go_num, ?_⟩
          rw [← mixAt_set simpB t.kids j hlt]
          have e6 : simpB t.kids[j] = t.kids[j].simp := by simp [simpB, hkj]
          rw [e6]
          exact HE2.out.put hbw rfl hg2 hgB j (by rw [mixAt_length]; exact hlt) _ (by simp [World.drew]) ho2
        case measure => simp [intOf]; omega
    · have : j = t.kids.length := by omega
      subst this
      rw [mixAt_full] at E
      obtain ⟨o0, o1, o2, o3⟩ := four_cells E.out
      obtain ⟨⟨x0, x1, x2, x3⟩, ⟨y0, y1, y2, y3⟩, ⟨f0, f1, f2, f3⟩, hz2⟩ := E.boxes.facts
      have HE2 := Hd.mk E
      have hlo := E.lo
      clear E
      go_wp2_with fail
      obtain ⟨hs, p⟩ := HE2.out.parts
      have hlen : (t.kids.map simpB).length = t.kids.length := by simp
      have hf := H.out.fits
      have hown : t.eachS.Own wr ⟨A2, c2, fun x => w.heap.size + 2 ≤ x⟩ := by
        rw [Node.eachS_eq, Node.Own_eq]
        exact ⟨⟨hf.kind0, hf.kind1, hf.num0, hf.num1, hf.name⟩, by simp only [hlen]; omega, hs, p.mono (fun x hx => hx.1)⟩
      have ek : t.eachS.kind = t.kind ∧ t.eachS.num = t.num ∧ t.eachS.name = t.name ∧ t.eachS.kids.length = t.kids.length := by rw [Node.eachS_eq]; simp
      refine bodyPost_ret (v := .agg #[.int .u8 t.eachS.kind, .int .i64 t.eachS.num, .string t.eachS.name, .slice A2 t.eachS.kids.length c2]) ?_ rfl ⟨A2, c2, rfl, ?_, ?_⟩
      · rw [ek.1, ek.2.1, ek.2.2.1, ek.2.2.2]
        have hc := res_cells (u0 := .int .u8 t.kind) (u1 := .int .i64 t.num) (u2 := .string t.name) (u3 := .slice A2 t.kids.length c2) HE2.out.boxes.res
        simp [results, Tryd.results61, go_sem, hc]
      · exact res_below HE2.out.boxes.below (by omega) _ _ _ _
      · exact Node.Own.mono (res_own hown (fun h => by have : w.heap.size + 2 ≤ w.heap.size + 1 := h; omega)) (fun x hx => by have : w.heap.size + 2 ≤ x := hx; omega)
end Go.Proofs.YtgjanglonccclaaDoor

/- Contract of simplify.block. -/
namespace Go.Proofs.YtgjanglonccclaaDoor
open Go.RowKit
set_option linter.unusedVariables false
set_option linter.unusedSimpArgs false

def EachRuns (t : Node) : Prop := ∀ (A : Option Addr) (c : Nat) (w : World) (ok : Nat → Prop), Good w → t.In w ok A c →
  Calls Tryd.prog 61 #[.agg #[.int .u8 t.kind, .int .i64 t.num, .string t.name, .slice A t.kids.length c], .func (.func 42) #[] #[]] w (Fresh w t.eachS)

structure BlockInv (w W : World) (t : Node) (A : Option Addr) (c : Nat) (A2 : Option Addr) (c2 : Nat) (acc : List Node) : Prop where
  boxes : Boxes w W t A c
  hi : w.heap.size + 2 < W.heap.size
  out : W.heap[w.heap.size + 2]? = some (.cells #[.int .u8 57, .int .i64 0, .string ⟨#[]⟩, .slice A2 acc.length c2] 24)
  own : (⟨57, 0, ⟨#[]⟩, acc⟩ : Node).Own W ⟨A2, c2, fun x => w.heap.size + 3 ≤ x⟩
theorem BlockInv.next {w W W2 : World} {t : Node} {A : Option Addr} {c : Nat} {A2 : Option Addr} {c2 : Nat} {acc : List Node} (E : BlockInv w W t A c A2 c2 acc) (h : Below W.heap.size W W2) : BlockInv w W2 t A c A2 c2 acc :=
  ⟨E.boxes.next h, Nat.lt_of_lt_of_le E.hi h.size, by rw [h.block _ E.hi]; exact E.out, E.own.below h⟩

theorem ext_drewN {B : Nat} {w W : World} (h : Below B w W) (n : Nat) : Below B w (W.drewN n) := ⟨h.os, h.tape, h.output, h.size, h.block⟩
theorem BlockInv.push {w wr W w2 : World} {t : Node} {A : Option Addr} {c : Nat} {A2 : Option Addr} {c2 : Nat} {acc : List Node} (E : BlockInv w wr t A c A2 c2 acc) {hs : List Hdr} (P : OwnParts wr acc (Hdr.tight wr ⟨A2, c2, fun x => w.heap.size + 3 ≤ x⟩) hs)
    (hW : Below wr.heap.size wr W) {s : Node} {A3 : Option Addr} {c3 N : Nat} (hN : wr.heap.size ≤ N) (ho : s.Own W ⟨A3, c3, fun x => N ≤ x⟩) {g cap : Nat}
    (hrow : w2.ownsRow 0 24 4 (.slice (some ⟨g, 0, none⟩) (acc.length + 1) cap) (acc.length + 1) (valsAll acc hs ++ [.int .u8 s.kind, .int .i64 s.num, .string s.name, .slice A3 s.kids.length c3]))
    (hgr : W.grownBy w2 (Value.slice A2 acc.length c2).ownBlock) (hat : (Value.slice A2 acc.length c2).ownBlock = some g ∨ g = W.heap.size) (hlen : (acc.length + 1) * 56 ≤ 140737488355328) :
    BlockInv w (w2.setCell ⟨w.heap.size + 2, 3, none⟩ (.slice (some ⟨g, 0, none⟩) (acc.length + 1) cap)) t A c (some ⟨g, 0, none⟩) cap (acc ++ [s]) := by
  have hi := E.hi
  have hsz := hW.size
  have hgs := hgr.size
  have NE : ∀ x, x < w.heap.size + 3 → some x ≠ (Value.slice A2 acc.length c2).ownBlock := fun x hx h => by
    have := (P.mine x h.symm).1.1
    simp at this; omega
  have hown2 := Node.Own.snoc (w := W) (w1 := w2) (k := 57) (n := 0) (s := ⟨#[]⟩) (g := g) (cap := cap) (u := s) (hu := Hdr.tight W ⟨A3, c3, fun x => N ≤ x⟩)
    ⟨by simp, by simp, by simp, by simp, by simp [ByteArray.size]⟩ (P.below hW) (fun x hx => by have := hx.2; omega) (Node.Own.tight _ ho) (fun x hx hy => by have h1 : N ≤ x := hx.1; have h2 : x < wr.heap.size := hy.2; omega) (fun x hx => hx.2)
    hrow hgr hat hlen
  have keep : ∀ x, x < w.heap.size + 3 → w2.heap[x]? = wr.heap[x]? := fun x hx => by
    rw [hgr.block _ (by omega) (NE x hx), hW.block _ (by omega)]
  have hbox : ∀ x, x < w.heap.size + 2 → (w2.setCell ⟨w.heap.size + 2, 3, none⟩ (.slice (some ⟨g, 0, none⟩) (acc.length + 1) cap)).heap[x]? = wr.heap[x]? := fun x hx => by
    rw [set_other (by omega), keep x (by omega)]
  have hos : Below w.heap.size w (w2.setCell ⟨w.heap.size + 2, 3, none⟩ (.slice (some ⟨g, 0, none⟩) (acc.length + 1) cap)) := by
    refine Below.setCell (p := ⟨w.heap.size + 2, 3, none⟩) ?_ (by simp) _
    refine ((E.boxes.below.trans (hW.mono (by omega))).grown hgr (by omega) (fun k hk => ?_))
    rcases Nat.lt_or_ge k (w.heap.size + 3) with h | h
    · exact absurd hk.symm (NE k h)
    · omega
  refine ⟨⟨hos, ?_, ?_, ?_⟩, ?_, ?_, ?_⟩
  · simp only [World.setCell, Array.size_modify]; omega
  · rw [hbox _ (by omega)]; exact E.boxes.box
  · rw [hbox _ (by omega)]; exact E.boxes.res
  · simp only [World.setCell, Array.size_modify]; omega
  · have := E.out
    rw [← keep _ (by omega)] at this
    rw [set_blk this]; simp
  · refine Node.Own.move (w := w2) _ (fun x hx _ => set_other (by have : w.heap.size + 3 ≤ x := hx; omega)) (Node.Own.mono hown2 (fun x hx => ?_))
    rcases hx with hx | hx | hx
    · exact hx.1
    · have : N ≤ x := hx.1; omega
    · omega
theorem BlockInv.pop {w W : World} {t : Node} {A : Option Addr} {c : Nat} {A2 : Option Addr} {c2 : Nat} {acc init : List Node} {l : Node} (hacc : acc = init ++ [l]) (E : BlockInv w W t A c A2 c2 acc) :
    BlockInv w (W.setCell ⟨w.heap.size + 2, 3, none⟩ (.slice A2 init.length c2)) t A c A2 c2 init := by
  subst hacc
  have hi := E.hi
  obtain ⟨hf, hlen, hs, p⟩ := Node.Own_eq.1 E.own
  refine ⟨⟨Below.setCell (p := ⟨w.heap.size + 2, 3, none⟩) E.boxes.below (by simp) _, by simp only [World.setCell, Array.size_modify]; omega, by rw [set_other (by omega)]; exact E.boxes.box, by rw [set_other (by omega)]; exact E.boxes.res⟩,
    by simp only [World.setCell, Array.size_modify]; omega, by rw [set_blk E.out]; simp, ?_⟩
  refine Node.Own.move (w := W) _ (fun x hx _ => set_other (by have : w.heap.size + 3 ≤ x := hx; omega)) ?_
  rw [Node.Own_eq]
  have q := p.take init.length (by simp)
  simp only [List.take_left'] at q
  refine ⟨⟨by simp, by simp, by simp, by simp, by simp [ByteArray.size]⟩, by simp at hlen ⊢; omega, _, q⟩

theorem row_cap {W : World} {base : Nat} {e : TypeId} {size : Nat} {A : Option Addr} {n c m : Nat} {xs : List Value} (h : W.ownsRow base e size (.slice A n c) m xs) : n ≤ c := by
  rcases h.2 with ⟨h, _⟩ | ⟨g, cap, cur, h, _, _, h2, _⟩
  · injection h; omega
  · injection h; omega
theorem new_after (w : World) (X Y : Obj) (n : Nat) : (((w.alloc X).drewN n).alloc Y).heap[w.heap.size + 1]? = some Y := by
  have h := heap_alloc_new ((w.alloc X).drewN n) Y
  have e : ((w.alloc X).drewN n).heap.size = w.heap.size + 1 := by simp [World.drewN]
  rw [e] at h
  exact h
theorem BlockInv.after {w wr W w2 : World} {t : Node} {A : Option Addr} {c : Nat} {A2 : Option Addr} {c2 : Nat} {acc : List Node} (E : BlockInv w wr t A c A2 c2 acc) {hs : List Hdr} (P : OwnParts wr acc (Hdr.tight wr ⟨A2, c2, fun x => w.heap.size + 3 ≤ x⟩) hs)
    (hW : Below wr.heap.size wr W) (hgr : W.grownBy w2 (Value.slice A2 acc.length c2).ownBlock) :
    w2.heap[w.heap.size + 1 + 1]? = some (.cells #[.int .u8 57, .int .i64 0, .string ⟨#[]⟩, .slice A2 acc.length c2] 24) := by
  have hi := E.hi
  have hsz := hW.size
  have NE : ∀ x, x < w.heap.size + 3 → some x ≠ (Value.slice A2 acc.length c2).ownBlock := fun x hx h => by
    have := (P.mine x h.symm).1.1
    simp at this; omega
  rw [hgr.block _ (by omega) (NE _ (by omega)), hW.block _ (by omega)]
  exact E.out
set_option maxHeartbeats 4000000 in
set_option maxRecDepth 100000 in
theorem block_step (t : Node) (ih : ∀ k ∈ t.kids, EachRuns k) : SimRuns t := by
  intro A c w ok hw h
  have B0 := Hd.mk (Boxes.start w t A c)
  have H := Hd.mk h
  have HW := Hd.mk hw
  have IH := Hd.mk ih
  have hl := h.lenZ
  clear h hw ih
  obtain ⟨i0, hi, hz0, hz1, hz2⟩ := info_parts infoNode
  go_enter Tryd.func42, Tryd.ntmps42
  go_wp2_with fail
  go_loopw [5, 6, 7, 12] (fun v5 v6 v7 v12 W => ∃ (j : Nat) (A2 : Option Addr) (c2 : Nat) (acc : List Node), j ≤ t.kids.length ∧ v12 = .int .i64 j ∧ Hd (acc.length ≤ j ∧ simpAll acc (t.kids.drop j) = simpAll [] t.kids) ∧ BlockInv w W t A c A2 c2 acc) (fun _ _ _ v12 _ => t.kids.length - (intOf v12).toNat)
  case atStart =>
    refine ⟨0, none, 0, [], Nat.zero_le _, rfl, ⟨by simp, rfl⟩, ?_⟩
    have B1 := B0.out.next (ext_alloc (Below.refl _ _) (.cells #[.int .u8 57, .int .i64 0, .string ⟨#[]⟩, .slice none 0 0] 24))
    refine ⟨B1, by simp, ?_, Node.Own.leaf (t := ⟨57, 0, ⟨#[]⟩, []⟩) ⟨by simp, by simp, by simp, by simp, by simp [ByteArray.size]⟩ _ rfl⟩
    have := (Go.MapKept.heap_alloc ((w.alloc (.cells #[.int .u8 t.kind, .int .i64 t.num, .string t.name, .slice A t.kids.length c] 24)).alloc (.cells #[.int .u8 0, .int .i64 0, .string ⟨#[]⟩, .slice none 0 0] 24)) (.cells #[.int .u8 57, .int .i64 0, .string ⟨#[]⟩, .slice none 0 0] 24)).1
    simpa using this
  case round =>
    obtain ⟨j, A2, c2, acc, hj, rfl, HS, E⟩ := hrel
    by_cases hlt : j < t.kids.length
    · obtain ⟨b, o, A1, c1, rfl, e0, e1, e2, e3, h4⟩ := (H.out.below E.boxes.below).at_ j hlt
      have HI := Hd.mk (IH.out t.kids[j] (List.getElem_mem _))
      have HE := Hd.mk E
      have H4 := Hd.mk h4
      have hi0 := E.hi
      clear E h4
      go_wp2_with fail
      refine (HI.out A1 c1 _ ok (HW.out.below (ext_trans HE.out.boxes.below (ext_alloc (Below.refl _ _) _))) (H4.out.below (ext_alloc (Below.refl _ _) _))).mono ?_
      rintro e w1 ⟨A3, c3, rfl, hb1, ho1⟩
      have hbw : Below wr.heap.size wr w1 := ext_trans (ext_alloc (Below.refl _ _) _) hb1
      have HE1 := Hd.mk (HE.out.next hbw)
      obtain ⟨o0, o1, o2, o3⟩ := four_cells HE1.out.out
      have hi1 := HE1.out.hi
      have hacc : acc.length ≤ j := HS.out.1
      obtain ⟨hfit, hlen, hd, P⟩ := Node.Own_eq.1 (Node.Own.tight _ HE.out.own)
      have PR := Hd.mk (fun W (hb : Below w1.heap.size w1 W) => ((P.below hbw).below hb).row)
      have HP := Hd.mk P
      have NX := Hd.mk (simpAll_drop hlt acc)
      clear P hfit hlen
      obtain ⟨s, hs⟩ : ∃ s, t.kids[j].eachS = s := ⟨_, rfl⟩
      rw [hs] at ho1 NX
      rw [hs]
      have HO1 := Hd.mk (show Node.Own w1 s ⟨A3, c3, fun x => wr.heap.size ≤ x⟩ from Node.Own.mono ho1 (fun x hx => by simp at hx; omega))
      have HB1 := Hd.mk hbw
      clear ho1 hb1 hbw hs
      obtain rfl | ⟨init, l, rfl⟩ : acc = [] ∨ ∃ init l, acc = init ++ [l] := by
        rcases List.eq_nil_or_concat acc with h | ⟨i, l, h⟩
        · exact .inl h
        · exact .inr ⟨i, l, by rw [h, List.concat_eq_append]⟩
      · simp only [List.length_nil] at o3 hacc
        go_wp2_with fail
        go_quiet (fail)
        go_wp2_with (at_builtin; refine wpList_append_own_at _ rfl _ _ 22 rfl 0 24 i0 _ 4 56 Tryd.underlying22 hi hz0 hz1 hz2 rfl (by omega) (.slice A2 0 c2) 0 (valsAll [] hd) rfl (PR.out _ (ext_alloc (ext_drewN (ext_alloc (Below.refl _ _) _) _) _)) ⟨w1.heap.size + 1, 0, none⟩ 1 1 [.int .u8 s.kind, .int .i64 s.num, .string s.name, .slice A3 s.kids.length c3] rfl rfl (World.news_of_block (new_after w1 _ _ _)) (by simp [Value.oneCell']) (by simp [maxLen]) (by omega) (by omega) ?_; intro v' w2 hrow hgr _ hat; obtain ⟨g, cap, rfl, _, _⟩ := hrow.form (by omega); have hu := HE.out.after HP.out (ext_trans HB1.out (ext_alloc (ext_drewN (ext_alloc (Below.refl _ _) _) _) _)) hgr; obtain ⟨p0, p1, p2, p3⟩ := four_cells hu; have pf := blk_free hu 3; have HU := Hd.mk hu; clear hu)
        go_roundw
        case rel =>
          refine ⟨j + 1, _, _, [s], hlt, by go_num, ⟨by simp, ?_⟩, HE.out.push HP.out (ext_trans HB1.out (ext_alloc (ext_drewN (ext_alloc (Below.refl _ _) _) _) _)) (Nat.le_refl _) (HO1.out.below (ext_alloc (ext_drewN (ext_alloc (Below.refl _ _) _) _) _)) hrow hgr ?_ (by simp)⟩
          · rw [← HS.out.2, NX.out]; rfl
          · rcases hat with h | h
            · exact .inl h.symm
            · exact .inr (Option.some.inj h)
        case measure => simp [intOf]; omega
      · simp only [List.length_append, List.length_singleton] at o3 hacc
        have hil : (init.length : Int) ≤ 2513169434916 := by omega
        have hdec : decide ((0 : Int) ≤ (init.length : Int)) = true := by simp
        have hd0 : (0 : Int) ≤ (init.length : Int) := by omega
        have hd1 : (init.length : Int) < (init.length : Int) + 1 := by omega
        obtain ⟨hs2, p⟩ := (Node.Own_eq.1 HE1.out.own).2.2
        obtain ⟨g, k0, hA, hF, hg, hfr, q0, q1, q2, q3, q4⟩ := p.at_ init.length (by simp)
        simp only [List.getElem_append_right (Nat.le_refl _), Nat.sub_self, List.getElem_cons_zero] at q0 q1 q2 q3 q4
        obtain rfl : A2 = some ⟨g, 0, none⟩ := hA
        generalize hs2[init.length] = hl at q3 q4
        have HL := Hd.mk q4
        have HP2 := Hd.mk p
        have HFR := Hd.mk hfr
        have HC := Hd.mk (fun (W : World) (hb : Below w1.heap.size w1 W) => cancels_any l s hl.A A3 hl.c c3 W _ _ (HW.out.below (ext_trans HE1.out.boxes.below hb)) (Node.Own.reads l (HL.out.below hb)) (Node.Own.reads s (HO1.out.below hb)))
        have hgF : w.heap.size + 3 ≤ g := hF
        obtain ⟨cb, hcb⟩ : ∃ x, cancelsB l s = x := ⟨_, rfl⟩
        rw [hcb] at HC
        have HCB := Hd.mk hcb
        clear p q4 hfr hcb hF
        go_wp2_with fail
        go_region_held3 (fun W' => W'.cell? ⟨w.heap.size + 1 + 1, 3, none⟩ = some (.slice (some ⟨g, 0, none⟩) (init.length + 1) c2) ∧ (W'.cell? ⟨g, init.length * 4, none⟩ = some (.int .u8 l.kind) ∧ W'.cell? ⟨g, init.length * 4 + 1, none⟩ = some (.int .i64 l.num) ∧
          W'.cell? ⟨g, init.length * 4 + 2, none⟩ = some (.string l.name) ∧ W'.cell? ⟨g, init.length * 4 + 3, none⟩ = some (.slice hl.A l.kids.length hl.c)) ∧ W'.cell? ⟨w1.heap.size, 0, none⟩ = some (.int .u8 s.kind) ∧ W'.cell? ⟨w1.heap.size, 1, none⟩ = some (.int .i64 s.num) ∧
          W'.cell? ⟨w1.heap.size, 2, none⟩ = some (.string s.name) ∧ W'.cell? ⟨w1.heap.size, 3, none⟩ = some (.slice A3 s.kids.length c3))
          (go_keep)
          (first
            | (go_at_call 14; refine (HC.out _ ((ext_alloc (Below.refl _ _) _).drew)).mono ?_; rintro e w2 ⟨rfl, hb2⟩; have hbw : Below w1.heap.size w1 w2 := ext_trans ((ext_alloc (Below.refl _ _) _).drew) hb2; have y0 := (hbw.cell (p := ⟨w.heap.size + 1 + 1, 3, none⟩) hi1).trans o3; obtain ⟨z0, z1, z2, z3⟩ := box_cells (ext_trans ((Below.refl _ _).drew) hb2); have s0 := (hbw.cell (p := ⟨g, init.length * 4, none⟩) hg).trans q0; have s1 := (hbw.cell (p := ⟨g, init.length * 4 + 1, none⟩) hg).trans q1; have s2 := (hbw.cell (p := ⟨g, init.length * 4 + 2, none⟩) hg).trans q2; have s3 := (hbw.cell (p := ⟨g, init.length * 4 + 3, none⟩) hg).trans q3))
        have HE2 := Hd.mk (HE1.out.next hbw)
        obtain ⟨p0, p1, p2, p3⟩ := four_cells HE2.out.out
        have pf := blk_free HE2.out.out 3
        rw [show w.heap.size + 2 = w.heap.size + 1 + 1 from rfl] at p0 p1 p2 p3 pf
        have el : (init ++ [l]).length = init.length + 1 := by simp
        rw [el] at p3
        have hcap : init.length + 1 ≤ c2 := by have := row_cap (PR.out w1 (Below.refl _ _)); simpa [Hdr.tight] using this
        have hci : (init.length : Int) ≤ (c2 : Int) := by omega
        have PR2 := Hd.mk (fun (W : World) (hb : Below w1.heap.size w1 W) => show W.ownsRow 0 24 4 (.slice (some ⟨g, 0, none⟩) (init.length + 1) c2) (init.length + 1) (valsAll (init ++ [l]) hd) by have := PR.out W hb; rw [el] at this; exact this)
        have EL := Hd.mk el
        have HBW := Hd.mk hbw
        clear el hbw
        cases cb
        · go_wp2_with (at_builtin; refine wpList_append_own_at _ rfl _ _ 22 rfl 0 24 i0 _ 4 56 Tryd.underlying22 hi hz0 hz1 hz2 rfl (by omega) (.slice (some ⟨g, 0, none⟩) (init.length + 1) c2) (init.length + 1) (valsAll (init ++ [l]) hd) rfl (PR2.out _ (ext_alloc HBW.out _)) ⟨w2.heap.size, 0, none⟩ 1 1 [.int .u8 s.kind, .int .i64 s.num, .string s.name, .slice A3 s.kids.length c3] rfl rfl (World.news_of_block (heap_alloc_new w2 _)) (by simp [Value.oneCell']) (by simp [maxLen]; omega) (by omega) (by omega) ?_; intro v' w3 hrow hgr _ hat; obtain ⟨g2, cap, rfl, _, _⟩ := hrow.form (by omega); have hgr2 : (w2.alloc (.cells #[.int .u8 s.kind, .int .i64 s.num, .string s.name, .slice A3 s.kids.length c3] 24)).grownBy w3 (Value.slice (some ⟨g, 0, none⟩) (init ++ [l]).length c2).ownBlock := hgr; have hu := HE.out.after HP.out (ext_trans HB1.out (ext_alloc HBW.out _)) hgr2; rw [EL.out] at hu; obtain ⟨r0, r1, r2, r3⟩ := four_cells hu; have rf := blk_free hu 3; have HU := Hd.mk hu; clear hu)
          go_roundw
          case rel =>
            have Z := HE.out.push (g := g2) (cap := cap) HP.out (ext_trans HB1.out (ext_alloc HBW.out _)) (Nat.le_refl _) (HO1.out.below (ext_alloc HBW.out _)) (by rw [EL.out]; exact hrow) hgr2 ?_ (by rw [EL.out]; omega)
            · rw [EL.out] at Z
              refine ⟨j + 1, _, _, _, hlt, by go_num, ⟨by simp; omega, ?_⟩, Z⟩
              rw [← HS.out.2, NX.out]
              simp [pushC, HCB.out]
            · rcases hat with h | h
              · exact .inl h.symm
              · exact .inr (Option.some.inj h)
          case measure => simp [intOf]; omega
        · go_wp2_with fail
          go_roundw
          case rel =>
            refine ⟨j + 1, _, _, init, hlt, by go_num, ⟨by omega, ?_⟩, HE2.out.pop rfl⟩
            rw [← HS.out.2, NX.out]
            simp [pushC, HCB.out]
          case measure => simp [intOf]; omega
    · have : j = t.kids.length := by omega
      subst this
      have hS := HS.out.2
      simp only [List.drop_length, simpAll] at hS
      have hal := HS.out.1
      subst hS
      obtain ⟨o0, o1, o2, o3⟩ := four_cells E.out
      obtain ⟨⟨x0, x1, x2, x3⟩, ⟨y0, y1, y2, y3⟩, ⟨f0, f1, f2, f3⟩, hz2⟩ := E.boxes.facts
      have HE2 := Hd.mk E
      have hi3 := E.hi
      clear E
      go_wp2_with fail
      have hown := HE2.out.own
      rw [← Node.simp_eq] at hown
      have ek : t.simp.kind = 57 ∧ t.simp.num = 0 ∧ t.simp.name = ⟨#[]⟩ ∧ t.simp.kids.length = (simpAll [] t.kids).length := by rw [Node.simp_eq]; simp
      refine bodyPost_ret (v := .agg #[.int .u8 t.simp.kind, .int .i64 t.simp.num, .string t.simp.name, .slice A2 t.simp.kids.length c2]) ?_ rfl ⟨A2, c2, rfl, ?_, ?_⟩
      · rw [ek.1, ek.2.1, ek.2.2.1, ek.2.2.2]
        have hc := res_cells (u0 := .int .u8 57) (u1 := .int .i64 0) (u2 := .string ⟨#[]⟩) (u3 := .slice A2 (simpAll [] t.kids).length c2) HE2.out.boxes.res
        simp [results, Tryd.results42, go_sem, hc]
      · exact res_below HE2.out.boxes.below (by omega) _ _ _ _
      · exact Node.Own.mono (res_own hown (fun h => by have : w.heap.size + 3 ≤ w.heap.size + 1 := h; omega)) (fun x hx => by have : w.heap.size + 3 ≤ x := hx; omega)
end Go.Proofs.YtgjanglonccclaaDoor

/- Contract of simplify.Block. -/
namespace Go.Proofs.YtgjanglonccclaaDoor
open Go.RowKit
set_option linter.unusedVariables false
set_option linter.unusedSimpArgs false

theorem sim_both (t : Node) : SimRuns t ∧ EachRuns t := by
  induction t using Node.ind with
  | h t ih => exact ⟨block_step t (fun k hk => (ih k hk).2), fun A c w ok hw h => each_any t (fun k hk _ => (ih k hk).1) A c w ok hw h⟩
def blockB (t : Node) : Node := if t.isBlock then t.simp else t
theorem blockB_eq (t : Node) : blockB t = if t.isBlock then t.simp else t := rfl

theorem Block_any (t : Node) (A : Option Addr) (c : Nat) (w : World) (ok : Nat → Prop) (hw : Good w) (h : t.In w ok A c) :
    Calls Tryd.prog 17 #[.agg #[.int .u8 t.kind, .int .i64 t.num, .string t.name, .slice A t.kids.length c]] w (Fresh w (blockB t)) := by
  have HB := Hd.mk (fun W (hb : Below w.heap.size w W) => isBlock_any t A c W ok (hw.below hb) (h.below hb))
  have HC := Hd.mk (fun W (hb : Below w.heap.size w W) => clone_any t A c W ok (h.below hb))
  have HS := Hd.mk (fun W (hb : Below w.heap.size w W) => (sim_both t).1 A c W ok (hw.below hb) (h.below hb))
  have B0 := Hd.mk (Boxes.start w t A c)
  clear hw h
  obtain ⟨r, hr⟩ : ∃ r, blockB t = r := ⟨_, rfl⟩
  cases hs : t.isBlock
  · rw [blockB_eq, hs] at hr
    simp at hr
    rw [hs] at HB
    subst hr
    have HR := Hd.mk (show blockB t = t by rw [blockB_eq, hs]; rfl)
    rw [HR.out]
    clear hs
    go_enter Tryd.func17, Tryd.ntmps17
    go_wp2_with fail
    refine (HB.out _ B0.out.below).mono ?_
    rintro e w1 ⟨rfl, hb⟩
    have B1 := Hd.mk (B0.out.next hb)
    obtain ⟨⟨x0, x1, x2, x3⟩, ⟨y0, y1, y2, y3⟩, ⟨f0, f1, f2, f3⟩, hz⟩ := B1.out.facts
    go_wp2_with fail
    refine (HC.out _ B1.out.below).mono ?_
    rintro e w3 ⟨A3, c3, rfl, hb3, ho3⟩
    have B3 := Hd.mk (B1.out.next hb3)
    have HO := Hd.mk (B1.out.out hb3 ho3 (.int .u8 t.kind) (.int .i64 t.num) (.string t.name) (.slice A3 t.kids.length c3))
    obtain ⟨⟨x0, x1, x2, x3⟩, ⟨y0, y1, y2, y3⟩, ⟨f0, f1, f2, f3⟩, hz⟩ := B3.out.facts
    clear ho3 hb3 hb
    go_wp2_with fail
    refine bodyPost_ret (v := .agg #[.int .u8 t.kind, .int .i64 t.num, .string t.name, .slice A3 t.kids.length c3]) ?_ rfl ⟨A3, c3, rfl, HO.out.1, HO.out.2⟩
    have hc := res_cells (u0 := .int .u8 t.kind) (u1 := .int .i64 t.num) (u2 := .string t.name) (u3 := .slice A3 t.kids.length c3) B3.out.res
    simp [results, Tryd.results17, go_sem, hc]
  · rw [hs] at HB
    have HR := Hd.mk (show blockB t = t.simp by rw [blockB_eq, hs]; rfl)
    rw [HR.out]
    generalize t.simp = s at HS HR
    clear hs hr
    go_enter Tryd.func17, Tryd.ntmps17
    go_wp2_with fail
    refine (HB.out _ B0.out.below).mono ?_
    rintro e w1 ⟨rfl, hb⟩
    have B1 := Hd.mk (B0.out.next hb)
    obtain ⟨⟨x0, x1, x2, x3⟩, ⟨y0, y1, y2, y3⟩, ⟨f0, f1, f2, f3⟩, hz⟩ := B1.out.facts
    go_wp2_with fail
    refine (HS.out _ B1.out.below).mono ?_
    rintro e w3 ⟨A3, c3, rfl, hb3, ho3⟩
    have B3 := Hd.mk (B1.out.next hb3)
    have HO := Hd.mk (B1.out.out hb3 ho3 (.int .u8 s.kind) (.int .i64 s.num) (.string s.name) (.slice A3 s.kids.length c3))
    obtain ⟨⟨x0, x1, x2, x3⟩, ⟨y0, y1, y2, y3⟩, ⟨f0, f1, f2, f3⟩, hz⟩ := B3.out.facts
    clear ho3 hb3 hb
    go_wp2_with fail
    refine bodyPost_ret (v := .agg #[.int .u8 s.kind, .int .i64 s.num, .string s.name, .slice A3 s.kids.length c3]) ?_ rfl ⟨A3, c3, rfl, HO.out.1, HO.out.2⟩
    have hc := res_cells (u0 := .int .u8 s.kind) (u1 := .int .i64 s.num) (u2 := .string s.name) (u3 := .slice A3 s.kids.length c3) B3.out.res
    simp [results, Tryd.results17, go_sem, hc]
end Go.Proofs.YtgjanglonccclaaDoor
