/- Trees that a call has made: 'Node.Own w t h': the children of t lie behind the header h in blocks of their own (h.F), no block serving twice. -/
import Derived.Test.YtgjanglonccclaaDoorBase
import Derived.Deep.AppendLies
import Derived.Maps.AppendAt
import Derived.Laws.OwnMore
namespace Go.Proofs.YtgjanglonccclaaDoor
open Go.RowKit
set_option linter.unusedVariables false
set_option linter.unusedSimpArgs false

/-- Where the children of a node lie: the slice's address and capacity, and the blocks. -/
structure Hdr where
  A : Option Addr
  c : Nat
  F : Nat → Prop

def Node.vals (t : Node) (h : Hdr) : List Value := [.int .u8 t.kind, .int .i64 t.num, .string t.name, .slice h.A t.kids.length h.c]
def valsAll : List Node → List Hdr → List Value
  | t :: ts, h :: hs => t.vals h ++ valsAll ts hs
  | _, _ => []
/-- The slice of the children. -/
def Hdr.val (h : Hdr) (n : Nat) : Value := .slice h.A n h.c

mutual
def Node.Own (w : World) : Node → Hdr → Prop
  | ⟨k, n, s, ks⟩, h => Node.Fits ⟨k, n, s, ks⟩ ∧ ks.length * 56 ≤ 140737488355328 ∧ ∃ hs, KidsOwn w ks hs ∧ w.ownsRow 0 24 4 (h.val ks.length) ks.length (valsAll ks hs) ∧
      (∀ b, (h.val ks.length).ownBlock = some b → h.F b ∧ ∀ g ∈ hs, ¬ g.F b) ∧ (∀ g ∈ hs, ∀ x, g.F x → h.F x) ∧ hs.Pairwise (fun g1 g2 => ∀ x, g1.F x → ¬ g2.F x)
def KidsOwn (w : World) : List Node → List Hdr → Prop
  | [], [] => True
  | t :: ts, h :: hs => t.Own w h ∧ KidsOwn w ts hs
  | [], _ :: _ => False
  | _ :: _, [] => False
end
/-- The row of a node's children, and what is known of its parts. -/
structure OwnParts (w : World) (ks : List Node) (h : Hdr) (hs : List Hdr) : Prop where
  kids : KidsOwn w ks hs
  row : w.ownsRow 0 24 4 (h.val ks.length) ks.length (valsAll ks hs)
  mine : ∀ b, (h.val ks.length).ownBlock = some b → h.F b ∧ ∀ g ∈ hs, ¬ g.F b
  sub : ∀ g ∈ hs, ∀ x, g.F x → h.F x
  apart : hs.Pairwise (fun g1 g2 => ∀ x, g1.F x → ¬ g2.F x)
theorem Node.Own_eq {w : World} {t : Node} {h : Hdr} : t.Own w h ↔ t.Fits ∧ t.kids.length * 56 ≤ 140737488355328 ∧ ∃ hs, OwnParts w t.kids h hs := by
  obtain ⟨k, n, s, ks⟩ := t
  simp only [Node.Own]
  constructor
  · rintro ⟨h1, h2, hs, a, b, c, d, e⟩; exact ⟨h1, h2, hs, ⟨a, b, c, d, e⟩⟩
  · rintro ⟨h1, h2, hs, ⟨a, b, c, d, e⟩⟩; exact ⟨h1, h2, hs, a, b, c, d, e⟩

theorem KidsOwn.len {w : World} : ∀ {ks : List Node} {hs : List Hdr}, KidsOwn w ks hs → ks.length = hs.length
  | [], [], _ => rfl
  | _ :: ts, _ :: hs, h => by simp [KidsOwn.len (ks := ts) (hs := hs) h.2]
  | [], _ :: _, h => by simp [KidsOwn] at h
  | _ :: _, [], h => by simp [KidsOwn] at h
theorem KidsOwn.iff {w : World} : ∀ {ks : List Node} {hs : List Hdr}, KidsOwn w ks hs ↔ ks.length = hs.length ∧ ∀ j (h1 : j < ks.length) (h2 : j < hs.length), (ks[j]).Own w hs[j]
  | [], [] => by simp [KidsOwn]
  | [], _ :: _ => by simp [KidsOwn]
  | _ :: _, [] => by simp [KidsOwn]
  | t :: ts, h :: hs => by
    rw [KidsOwn, KidsOwn.iff (ks := ts) (hs := hs)]
    constructor
    · rintro ⟨h0, hl, hj⟩
      refine ⟨by simp [hl], fun j h1 h2 => ?_⟩
      cases j with
      | zero => exact h0
      | succ j => exact hj j (by simpa using h1) (by simpa using h2)
    · rintro ⟨hl, hj⟩
      refine ⟨hj 0 (by simp) (by simp), by simpa using hl, fun j h1 h2 => ?_⟩
      exact hj (j + 1) (by simpa using h1) (by simpa using h2)

theorem valsAll_length : ∀ {ks : List Node} {hs : List Hdr}, ks.length = hs.length → (valsAll ks hs).length = ks.length * 4
  | [], [], _ => rfl
  | t :: ts, h :: hs, hl => by
    rw [valsAll, List.length_append, valsAll_length (ks := ts) (hs := hs) (by simpa using hl)]
    simp [Node.vals]; omega
  | [], _ :: _, hl => by simp at hl
  | _ :: _, [], hl => by simp at hl
theorem valsAll_at : ∀ {ks : List Node} {hs : List Hdr} (j i : Nat) (h1 : j < ks.length) (h2 : j < hs.length), i < 4 → (valsAll ks hs)[j * 4 + i]? = (ks[j].vals hs[j])[i]?
  | [], _, _, _, h1, _, _ => by simp at h1
  | _ :: _, [], _, _, _, h2, _ => by simp at h2
  | t :: ts, h :: hs, 0, i, _, _, hi => by
    simp only [valsAll, Nat.zero_mul, Nat.zero_add, List.getElem_cons_zero]
    rw [List.getElem?_append_left (by simp [Node.vals]; omega)]
  | t :: ts, h :: hs, j + 1, i, h1, h2, hi => by
    simp only [valsAll, List.getElem_cons_succ]
    rw [List.getElem?_append_right (by simp [Node.vals]; omega)]
    rw [show (j + 1) * 4 + i - (t.vals h).length = j * 4 + i by simp [Node.vals]; omega]
    exact valsAll_at j i (by simpa using h1) (by simpa using h2) hi
theorem valsAll_append : ∀ {ks : List Node} {hs : List Hdr} (ks2 : List Node) (hs2 : List Hdr), ks.length = hs.length → valsAll (ks ++ ks2) (hs ++ hs2) = valsAll ks hs ++ valsAll ks2 hs2
  | [], [], _, _, _ => rfl
  | t :: ts, h :: hs, ks2, hs2, hl => by
    simp only [List.cons_append, valsAll, List.append_assoc]
    rw [valsAll_append (ks := ts) (hs := hs) ks2 hs2 (by simpa using hl)]
  | [], _ :: _, _, _, hl => by simp at hl
  | _ :: _, [], _, _, hl => by simp at hl

theorem row_of_block {w w' : World} {base : Nat} {e : TypeId} {size n : Nat} {v : Value} {xs : List Value} (h : w.ownsRow base e size v n xs) (hb : ∀ g, v.ownBlock = some g → w'.heap[g]? = w.heap[g]?) : w'.ownsRow base e size v n xs := by
  refine ⟨h.1, ?_⟩
  rcases h.2 with h2 | ⟨g, cap, cur, rfl, h3, h4, r⟩
  · exact .inl h2
  · exact .inr ⟨g, cap, cur, rfl, h3, by rw [hb g rfl]; exact h4, r⟩
theorem row_lt {w : World} {base : Nat} {e : TypeId} {size n : Nat} {v : Value} {xs : List Value} (h : w.ownsRow base e size v n xs) {g : Nat} (hg : v.ownBlock = some g) : g < w.heap.size := (h.lt g hg).2

/-- What is owned stands where its blocks stand. -/
theorem Node.Own.move {w w' : World} : ∀ (t : Node) {h : Hdr}, (∀ x, h.F x → x < w.heap.size → w'.heap[x]? = w.heap[x]?) → t.Own w h → t.Own w' h := by
  intro t
  induction t using Node.ind with
  | h t ih =>
    intro h hb ho
    rw [Node.Own_eq] at ho ⊢
    obtain ⟨h1, h2, hs, p⟩ := ho
    refine ⟨h1, h2, hs, ⟨?_, ?_, p.mine, p.sub, p.apart⟩⟩
    · rw [KidsOwn.iff]
      refine ⟨p.kids.len, fun j g1 g2 => ?_⟩
      refine ih _ (List.getElem_mem _) (fun x hx hlt => hb x (p.sub _ (List.getElem_mem _) x hx) hlt) ((KidsOwn.iff.1 p.kids).2 j g1 g2)
    · exact row_of_block p.row fun g hg => hb g (p.mine g hg).1 (row_lt p.row hg)
theorem Node.Own.below {w w' : World} {t : Node} {h : Hdr} (ho : t.Own w h) (hb : Below w.heap.size w w') : t.Own w' h := Node.Own.move t (fun x _ hx => hb.block x hx) ho
theorem Node.Own.mono {w : World} {t : Node} {h : Hdr} {F : Nat → Prop} (ho : t.Own w h) (hF : ∀ x, h.F x → F x) : t.Own w { h with F := F } := by
  rw [Node.Own_eq] at ho ⊢
  obtain ⟨h1, h2, hs, p⟩ := ho
  exact ⟨h1, h2, hs, ⟨p.kids, p.row, fun b hb => ⟨hF b (p.mine b hb).1, (p.mine b hb).2⟩, fun g hg x hx => hF x (p.sub g hg x hx), p.apart⟩⟩
def Hdr.tight (w : World) (h : Hdr) : Hdr := { h with F := fun x => h.F x ∧ x < w.heap.size }
theorem valsAll_tight (w : World) : ∀ (ks : List Node) (hs : List Hdr), valsAll ks (hs.map (Hdr.tight w)) = valsAll ks hs
  | [], _ => by simp [valsAll]
  | _ :: _, [] => by simp [valsAll]
  | t :: ts, h :: hs => by simp only [List.map_cons, valsAll]; rw [valsAll_tight w ts hs]; rfl
/-- The blocks that are there are enough. -/
theorem Node.Own.tight {w : World} : ∀ (t : Node) {h : Hdr}, t.Own w h → t.Own w (h.tight w) := by
  intro t
  induction t using Node.ind with
  | h t ih =>
    intro h ho
    rw [Node.Own_eq] at ho ⊢
    obtain ⟨h1, h2, hs, p⟩ := ho
    refine ⟨h1, h2, hs.map (Hdr.tight w), ⟨?_, ?_, ?_, ?_, ?_⟩⟩
    · rw [KidsOwn.iff]
      refine ⟨by simp [p.kids.len], fun j g1 g2 => ?_⟩
      rw [List.getElem_map]
      exact ih _ (List.getElem_mem _) ((KidsOwn.iff.1 p.kids).2 j g1 (by simpa using g2))
    · rw [valsAll_tight]; exact p.row
    · intro b hb
      refine ⟨⟨(p.mine b hb).1, row_lt p.row hb⟩, fun g hg hF => ?_⟩
      obtain ⟨g0, hg0, rfl⟩ := List.mem_map.1 hg
      exact (p.mine b hb).2 g0 hg0 hF.1
    · intro g hg x hx
      obtain ⟨g0, hg0, rfl⟩ := List.mem_map.1 hg
      exact ⟨p.sub g0 hg0 x hx.1, hx.2⟩
    · rw [List.pairwise_map]
      exact p.apart.imp fun hd x h1 h2 => hd x h1.1 h2.1

theorem OwnParts.below {w w' : World} {ks : List Node} {h : Hdr} {hs : List Hdr} (p : OwnParts w ks h hs) (hb : Below w.heap.size w w') : OwnParts w' ks h hs :=
  ⟨KidsOwn.iff.2 ⟨p.kids.len, fun j g1 g2 => ((KidsOwn.iff.1 p.kids).2 j g1 g2).below hb⟩, row_of_block p.row fun g hg => hb.block g (row_lt p.row hg), p.mine, p.sub, p.apart⟩
/-- Cells that an append leaves alone. -/
theorem grown_cell {w w1 : World} {row : Option Nat} (hg : w.grownBy w1 row) {b : Nat} (hb : b < w.heap.size) (hr : some b ≠ row) (i : Nat) : w1.cell? ⟨b, i, none⟩ = w.cell? ⟨b, i, none⟩ :=
  World.cell?_of_block (w := w) (a := ⟨b, i, none⟩) (hg.block b hb hr)
theorem grown_block {w w1 : World} {row : Option Nat} (hg : w.grownBy w1 row) {b : Nat} (hb : b < w.heap.size) (hr : some b ≠ row) : w1.heap[b]? = w.heap[b]? := hg.block b hb hr
theorem cell_after {w1 w2 : World} {o : Obj} {row : Option Nat} (hg : (w1.alloc o).grownBy w2 row) {b i : Nat} {v : Value} (hc : w1.cell? ⟨b, i, none⟩ = some v) (hr : some b ≠ row) : w2.cell? ⟨b, i, none⟩ = some v := by
  have hb : b < w1.heap.size := World.block_lt_of_cell? _ _ hc
  rw [grown_cell hg (by simp; omega) hr, World.cell?_of_block (w := w1) ((Go.MapKept.heap_alloc w1 o).2 _ hb)]
  exact hc
theorem block_after {w1 w2 : World} {o x : Obj} {row : Option Nat} (hg : (w1.alloc o).grownBy w2 row) {b : Nat} (hc : w1.heap[b]? = some x) (hr : some b ≠ row) : w2.heap[b]? = some x := by
  have hb : b < w1.heap.size := (Array.getElem?_eq_some_iff.1 hc).1
  rw [grown_block hg (by simp; omega) hr, (Go.MapKept.heap_alloc w1 o).2 _ hb]
  exact hc
/-- Element j of an owned row, in memory. -/
theorem OwnParts.at_ {w : World} {ks : List Node} {h : Hdr} {hs : List Hdr} (p : OwnParts w ks h hs) (j : Nat) (h1 : j < ks.length) :
    ∃ (g : Nat) (h2 : j < hs.length), h.A = some ⟨g, 0, none⟩ ∧ h.F g ∧ g < w.heap.size ∧ (∀ i, w.frozen? ⟨g, i, none⟩ = false) ∧ w.cell? ⟨g, j * 4, none⟩ = some (.int .u8 ks[j].kind) ∧ w.cell? ⟨g, j * 4 + 1, none⟩ = some (.int .i64 ks[j].num) ∧
      w.cell? ⟨g, j * 4 + 2, none⟩ = some (.string ks[j].name) ∧ w.cell? ⟨g, j * 4 + 3, none⟩ = some (.slice hs[j].A ks[j].kids.length hs[j].c) ∧ (ks[j]).Own w hs[j] := by
  have h2 : j < hs.length := by rw [← p.kids.len]; exact h1
  obtain ⟨g, cap, e, _, _⟩ := p.row.form (by omega)
  have hA : h.A = some ⟨g, 0, none⟩ := by simp only [Hdr.val] at e; injection e
  have hc : h.c = cap := by simp only [Hdr.val] at e; injection e
  have hrow : w.ownsRow 0 24 4 (.slice (some ⟨g, 0, none⟩) ks.length cap) ks.length (valsAll ks hs) := by rw [← e]; exact p.row
  have hm := p.mine g (by rw [e]; rfl)
  have hv : ∀ i, i < 4 → w.cell? ⟨g, j * 4 + i, none⟩ = (ks[j].vals hs[j])[i]? := fun i hi => by
    rw [hrow.cellAt (j * 4 + i) (by omega), valsAll_at j i h1 h2 hi]
  refine ⟨g, h2, hA, hm.1, row_lt hrow rfl, fun i => hrow.frozenAt i, by have := hv 0 (by omega); simpa [Node.vals] using this, by have := hv 1 (by omega); simpa [Node.vals] using this, by have := hv 2 (by omega); simpa [Node.vals] using this, by have := hv 3 (by omega); simpa [Node.vals] using this, (KidsOwn.iff.1 p.kids).2 j h1 h2⟩

theorem Node.Own.cap {w : World} {t : Node} {h : Hdr} (ho : t.Own w h) : t.kids.length ≤ h.c ∧ h.c ≤ maxLen := by
  obtain ⟨_, _, hs, p⟩ := Node.Own_eq.1 ho
  rcases p.row.2 with ⟨h0, h1⟩ | ⟨g, cap, cur, hv, _, _, h3, h4, _⟩
  · simp only [Hdr.val, Value.slice.injEq] at h0; omega
  · simp only [Hdr.val, Value.slice.injEq] at hv; omega
/-- What is owned can be read. -/
theorem Node.Own.reads {w : World} : ∀ (t : Node) {h : Hdr}, t.Own w h → t.In w h.F h.A h.c := by
  intro t
  induction t using Node.ind with
  | h t ih =>
    intro h ho
    have hcap := ho.cap
    rw [Node.Own_eq] at ho
    obtain ⟨h1, h2, hs, p⟩ := ho
    rw [Node.In_eq]
    refine ⟨h1, hcap.1, h2, ?_⟩
    by_cases hk : t.kids = []
    · exact .inl hk
    · right
      obtain ⟨g, _, hA, hF, _⟩ := p.at_ 0 (List.length_pos_iff.2 hk)
      refine ⟨g, 0, hA, hF, RowIn.iff.2 fun j hj => ?_⟩
      obtain ⟨g', h2', hA', _, _, _, e0, e1, e2, e3, e4⟩ := p.at_ j hj
      obtain rfl : g' = g := by rw [hA] at hA'; injection hA' with e; injection e with e; exact e.symm
      rw [Nat.zero_add]
      refine ⟨hs[j].A, hs[j].c, e0, e1, e2, e3, ?_⟩
      exact Node.In.move (fun _ _ _ => rfl) (fun x hx _ => p.sub _ (List.getElem_mem _) x hx) _ (ih _ (List.getElem_mem _) e4)

theorem Node.Own.leaf {w : World} {t : Node} (hf : t.Fits) (F : Nat → Prop) (hk : t.kids = []) : t.Own w ⟨none, 0, F⟩ := by
  rw [Node.Own_eq]
  refine ⟨hf, by rw [hk]; simp, [], ?_⟩
  rw [hk]
  exact ⟨trivial, ⟨by simp [valsAll], .inl ⟨rfl, rfl⟩⟩, fun b hb => by simp [Hdr.val, Value.ownBlock] at hb, fun g hg => by simp at hg, List.Pairwise.nil⟩

/-- A child more. -/
theorem Node.Own.snoc {w w1 : World} {k n : Int} {s : ByteArray} {ks : List Node} {h : Hdr} {hs : List Hdr} {u : Node} {hu : Hdr} (hf : Node.Fits ⟨k, n, s, ks ++ [u]⟩) (p : OwnParts w ks h hs) (hT : ∀ x, h.F x → x < w.heap.size)
    (huo : u.Own w hu) (hd : ∀ x, hu.F x → ¬ h.F x) (huT : ∀ x, hu.F x → x < w.heap.size) {g cap : Nat}
    (hrow : w1.ownsRow 0 24 4 (.slice (some ⟨g, 0, none⟩) (ks.length + 1) cap) (ks.length + 1) (valsAll ks hs ++ u.vals hu)) (hgr : w.grownBy w1 (h.val ks.length).ownBlock)
    (hg : (h.val ks.length).ownBlock = some g ∨ g = w.heap.size) (hlen : (ks.length + 1) * 56 ≤ 140737488355328) :
    (⟨k, n, s, ks ++ [u]⟩ : Node).Own w1 ⟨some ⟨g, 0, none⟩, cap, fun x => h.F x ∨ hu.F x ∨ x = w.heap.size⟩ := by
  have hst : ∀ (t : Node) (g1 : Hdr), t.Own w g1 → (∀ x, g1.F x → x < w.heap.size → some x ≠ (h.val ks.length).ownBlock) → t.Own w1 g1 := fun t g1 ho hne =>
    Node.Own.move t (fun x hx hlt => hgr.block x hlt (hne x hx hlt)) ho
  rw [Node.Own_eq]
  refine ⟨hf, by simpa using hlen, hs ++ [hu], ⟨?_, ?_, ?_, ?_, ?_⟩⟩
  · rw [KidsOwn.iff]
    refine ⟨by simp [p.kids.len], fun j h1 h2 => ?_⟩
    have hl := p.kids.len
    by_cases hj : j < ks.length
    · rw [List.getElem_append_left hj, List.getElem_append_left (by omega)]
      refine hst _ _ ((KidsOwn.iff.1 p.kids).2 j hj (by omega)) (fun x hx hlt he => ?_)
      exact (p.mine x he.symm).2 _ (List.getElem_mem _) hx
    · have hj' : j = ks.length := by simp at h1; omega
      subst hj'
      have e1 : (ks ++ [u])[ks.length]'h1 = u := by simp
      have e2 : (hs ++ [hu])[ks.length]'h2 = hu := by simp [hl]
      rw [e1, e2]
      exact hst _ _ huo (fun x hx hlt he => hd x hx (p.mine x he.symm).1)
  · rw [valsAll_append _ _ p.kids.len]
    simp only [valsAll, List.append_nil, List.length_append, List.length_singleton]
    exact hrow
  · intro b hb
    obtain rfl : g = b := by simpa [Hdr.val, Value.ownBlock] using hb
    rcases hg with hg | hg
    · have hm := p.mine g hg
      refine ⟨.inl hm.1, fun g1 hg1 hx => ?_⟩
      rcases List.mem_append.1 hg1 with h1 | h1
      · exact hm.2 g1 h1 hx
      · obtain rfl := List.mem_singleton.1 h1
        exact hd _ hx hm.1
    · refine ⟨.inr (.inr hg), fun g1 hg1 hx => ?_⟩
      rcases List.mem_append.1 hg1 with h1 | h1
      · have := hT _ (p.sub g1 h1 _ hx); omega
      · obtain rfl := List.mem_singleton.1 h1
        have := huT _ hx; omega
  · intro g1 hg1 x hx
    rcases List.mem_append.1 hg1 with h1 | h1
    · exact .inl (p.sub g1 h1 x hx)
    · obtain rfl := List.mem_singleton.1 h1
      exact .inr (.inl hx)
  · rw [List.pairwise_append]
    refine ⟨p.apart, by simp, fun g1 hg1 g2 hg2 x h1 h2 => ?_⟩
    obtain rfl := List.mem_singleton.1 hg2
    exact hd x h2 (p.sub g1 hg1 x h1)

/-- Fewer children: the slice cut short. -/
theorem OwnParts.take {w : World} {ks : List Node} {h : Hdr} {hs : List Hdr} (p : OwnParts w ks h hs) (j : Nat) (hj : j ≤ ks.length) : OwnParts w (ks.take j) h (hs.take j) := by
  have hl := p.kids.len
  have hv : valsAll (ks.take j) (hs.take j) = (valsAll ks hs).take (j * 4) := by
    have e : valsAll ks hs = valsAll (ks.take j) (hs.take j) ++ valsAll (ks.drop j) (hs.drop j) := by
      rw [← valsAll_append _ _ (by simp; omega), List.take_append_drop, List.take_append_drop]
    rw [e, List.take_left']
    rw [valsAll_length (by simp; omega)]; simp; omega
  refine ⟨?_, ?_, ?_, fun g hg x hx => p.sub g (List.mem_of_mem_take hg) x hx, p.apart.sublist (List.take_sublist _ _)⟩
  · rw [KidsOwn.iff]
    refine ⟨by simp; omega, fun i h1 h2 => ?_⟩
    rw [List.getElem_take, List.getElem_take]
    exact (KidsOwn.iff.1 p.kids).2 i _ _
  · have hlj : (ks.take j).length = j := by simp; omega
    rw [hlj]
    refine ⟨by rw [hv, List.length_take, p.row.1]; omega, ?_⟩
    rcases p.row.2 with ⟨h0, h1⟩ | ⟨g, cap, cur, e, h3, h4, h5, h6, h7, h8⟩
    · left
      simp only [Hdr.val, Value.slice.injEq] at h0 ⊢
      exact ⟨⟨h0.1, by omega, h0.2.2⟩, by omega⟩
    · right
      simp only [Hdr.val, Value.slice.injEq] at e
      refine ⟨g, cap, cur, by simp only [Hdr.val, Value.slice.injEq]; exact ⟨e.1, trivial, e.2.2⟩, h3, h4, by omega, h6, h7, ?_⟩
      rw [hv, ← h8, List.take_take, Nat.min_eq_left (by omega)]
  · intro b hb
    have hb' : (h.val ks.length).ownBlock = some b := by
      simp only [Hdr.val] at hb ⊢
      cases hA : h.A with
      | none => rw [hA] at hb; simp [Value.ownBlock] at hb
      | some a => rw [hA] at hb; simpa [Value.ownBlock] using hb
    exact ⟨(p.mine b hb').1, fun g hg => (p.mine b hb').2 g (List.mem_of_mem_take hg)⟩
end Go.Proofs.YtgjanglonccclaaDoor
