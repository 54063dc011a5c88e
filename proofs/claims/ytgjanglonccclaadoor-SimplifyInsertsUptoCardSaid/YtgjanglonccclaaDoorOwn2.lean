/- More on trees of the call's own: an element stored anew, two elements exchanged. -/
import Derived.Test.YtgjanglonccclaaDoorOwn
namespace Go.Proofs.YtgjanglonccclaaDoor
open Go.RowKit
set_option linter.unusedVariables false
set_option linter.unusedSimpArgs false

/-- Four cells stored. -/
def set4 (W : World) (g o : Nat) (t : Node) (h : Hdr) : World :=
  (((W.setCell ⟨g, o, none⟩ (.int .u8 t.kind)).setCell ⟨g, o + 1, none⟩ (.int .i64 t.num)).setCell ⟨g, o + 2, none⟩ (.string t.name)).setCell ⟨g, o + 3, none⟩ (.slice h.A t.kids.length h.c)
theorem set4_other {W : World} {g o b : Nat} {t : Node} {h : Hdr} (hb : b ≠ g) : (set4 W g o t h).heap[b]? = W.heap[b]? := by
  unfold set4
  rw [set_other hb, set_other hb, set_other hb, set_other hb]
theorem set4_below {B : Nat} {w W : World} (hb : Below B w W) {g o : Nat} (hg : B ≤ g) (t : Node) (h : Hdr) : Below B w (set4 W g o t h) :=
  (((hb.setCell (p := ⟨g, o, none⟩) hg _).setCell (p := ⟨g, o + 1, none⟩) hg _).setCell (p := ⟨g, o + 2, none⟩) hg _).setCell (p := ⟨g, o + 3, none⟩) hg _
theorem set4_size {W : World} {g o : Nat} {t : Node} {h : Hdr} : (set4 W g o t h).heap.size = W.heap.size := by simp [set4, World.setCell]
theorem set4_drawn {W : World} {g o : Nat} {t : Node} {h : Hdr} : (set4 W g o t h).os = W.os ∧ (set4 W g o t h).tape = W.tape ∧ (set4 W g o t h).output = W.output := ⟨rfl, rfl, rfl⟩

theorem valsAll_set : ∀ {ks : List Node} {hs : List Hdr} (i : Nat) (u : Node) (hu : Hdr), ks.length = hs.length → i < ks.length →
    ((((valsAll ks hs).set (i * 4) (.int .u8 u.kind)).set (i * 4 + 1) (.int .i64 u.num)).set (i * 4 + 2) (.string u.name)).set (i * 4 + 3) (.slice hu.A u.kids.length hu.c) = valsAll (ks.set i u) (hs.set i hu)
  | [], _, _, _, _, _, h => by simp at h
  | _ :: _, [], _, _, _, h, _ => by simp at h
  | t :: ts, h :: hs, 0, u, hu, _, _ => by simp [valsAll, Node.vals]
  | t :: ts, h :: hs, i + 1, u, hu, hl, hi => by
    have ih := valsAll_set (ks := ts) (hs := hs) i u hu (by simpa using hl) (by simpa using hi)
    simp only [valsAll, List.set_cons_succ]
    rw [← ih]
    have h4 : (t.vals h).length = 4 := rfl
    rw [List.set_append_right _ _ (by omega), List.set_append_right _ _ (by omega), List.set_append_right _ _ (by omega), List.set_append_right _ _ (by omega), h4,
      show (i + 1) * 4 - 4 = i * 4 by omega, show (i + 1) * 4 + 1 - 4 = i * 4 + 1 by omega, show (i + 1) * 4 + 2 - 4 = i * 4 + 2 by omega, show (i + 1) * 4 + 3 - 4 = i * 4 + 3 by omega]

/-- An element of an owned row stored anew: the row. -/
theorem row_put {W : World} {g n cap : Nat} {ks : List Node} {hs : List Hdr} (hr : W.ownsRow 0 24 4 (.slice (some ⟨g, 0, none⟩) n cap) n (valsAll ks hs)) (hl : ks.length = hs.length) {i : Nat} (hi : i < ks.length) (u : Node) (hu : Hdr) :
    (set4 W g (i * 4) u hu).ownsRow 0 24 4 (.slice (some ⟨g, 0, none⟩) n cap) n (valsAll (ks.set i u) (hs.set i hu)) := by
  rw [← valsAll_set i u hu hl hi]
  exact ((((hr.stored (i * 4) _).1.stored (i * 4 + 1) _).1).stored (i * 4 + 2) _).1.stored (i * 4 + 3) _ |>.1

/-- Two elements exchanged. -/
def swapped {α : Type} (l : List α) (i j : Nat) (hi : i < l.length) (hj : j < l.length) : List α := (l.set i l[j]).set j l[i]
theorem swapped_length {α : Type} (l : List α) (i j : Nat) (hi : i < l.length) (hj : j < l.length) : (swapped l i j hi hj).length = l.length := by simp [swapped]
theorem swapped_at {α : Type} (l : List α) (i j : Nat) (hi : i < l.length) (hj : j < l.length) (m : Nat) (hm : m < (swapped l i j hi hj).length) :
    (swapped l i j hi hj)[m] = if m = j then l[i] else if m = i then l[j] else l[m]'(by rw [swapped_length] at hm; exact hm) := by
  have e : (swapped l i j hi hj)[m] = ((l.set i l[j]).set j l[i])[m]'(by rw [swapped_length] at hm; simpa using hm) := rfl
  rw [e, List.getElem_set]
  by_cases h1 : j = m
  · rw [if_pos h1, if_pos h1.symm]
  · rw [if_neg h1, if_neg (Ne.symm h1), List.getElem_set]
    by_cases h2 : i = m
    · rw [if_pos h2, if_pos h2.symm]
    · rw [if_neg h2, if_neg (Ne.symm h2)]
theorem swapped_perm {α : Type} (l : List α) (i j : Nat) (hi : i < l.length) (hj : j < l.length) : (swapped l i j hi hj).Perm l := List.set_set_perm hi hj

theorem OwnParts.swap {W : World} {ks : List Node} {h : Hdr} {hs : List Hdr} (p : OwnParts W ks h hs) {g : Nat} (hA : h.A = some ⟨g, 0, none⟩) (i j : Nat) (hi : i < ks.length) (hj : j < ks.length) (hi' : i < hs.length) (hj' : j < hs.length) :
    OwnParts (set4 (set4 W g (i * 4) ks[j] hs[j]) g (j * 4) ks[i] hs[i]) (swapped ks i j hi hj) h (swapped hs i j hi' hj') := by
  have hpm := swapped_perm hs i j hi' hj'
  have hv : h.val ks.length = .slice (some ⟨g, 0, none⟩) ks.length h.c := by simp [Hdr.val, hA]
  have hlen := p.kids.len
  have hother : ∀ x, x ≠ g → (set4 (set4 W g (i * 4) ks[j] hs[j]) g (j * 4) ks[i] hs[i]).heap[x]? = W.heap[x]? := fun x hx => by rw [set4_other hx, set4_other hx]
  have hm := p.mine g (by rw [hv]; rfl)
  refine ⟨?_, ?_, ?_, fun g1 h1 => p.sub g1 (hpm.mem_iff.1 h1), ?_⟩
  · rw [KidsOwn.iff]
    refine ⟨by rw [swapped_length, swapped_length, hlen], fun m h1 h2 => ?_⟩
    rw [swapped_at, swapped_at]
    have key : ∀ q (a1 : q < ks.length) (a2 : q < hs.length), ks[q].Own (set4 (set4 W g (i * 4) ks[j] hs[j]) g (j * 4) ks[i] hs[i]) hs[q] := fun q a1 a2 =>
      Node.Own.move _ (fun x hx _ => hother x (fun e => hm.2 _ (List.getElem_mem a2) (e ▸ hx))) ((KidsOwn.iff.1 p.kids).2 q a1 a2)
    split
    · exact key i hi hi'
    · split
      · exact key j hj hj'
      · rw [swapped_length] at h1 h2
        exact key m h1 h2
  · have hr := p.row
    rw [hv] at hr
    have h1 := row_put hr hlen hi ks[j] hs[j]
    have h2 := row_put (i := j) h1 (by simp [hlen]) (by simpa using hj) ks[i] hs[i]
    rw [swapped_length, hv]
    exact h2
  · intro b hb
    rw [swapped_length] at hb
    exact ⟨(p.mine b hb).1, fun g1 h1 => (p.mine b hb).2 g1 (hpm.mem_iff.1 h1)⟩
  · exact (hpm.pairwise_iff (fun {x y} hxy z h1 h2 => hxy z h2 h1)).2 p.apart

/-- The first i and the last i elements have been exchanged. -/
def RevTo {α : Type} (l cur : List α) (i : Nat) : Prop := cur.length = l.length ∧ ∀ m (h1 : m < cur.length) (h2 : m < l.length), cur[m] = if m < i ∨ l.length ≤ m + i then l[l.length - 1 - m]'(by omega) else l[m]
theorem RevTo.zero {α : Type} (l : List α) : RevTo l l 0 := ⟨rfl, fun m h1 h2 => by rw [if_neg (by omega)]⟩
theorem RevTo.step {α : Type} {l cur : List α} {i : Nat} (h : RevTo l cur i) (hi : i < l.length - 1 - i) (h1 : i < cur.length) (h2 : l.length - 1 - i < cur.length) : RevTo l (swapped cur i (l.length - 1 - i) h1 h2) (i + 1) := by
  refine ⟨by rw [swapped_length, h.1], fun m g1 g2 => ?_⟩
  have hl := h.1
  rw [swapped_at]
  split
  · rename_i e
    subst e
    rw [h.2 i h1 (by omega), if_neg (by omega), if_pos (by omega)]
    congr 1; omega
  · split
    · rename_i e1 e
      subst e
      rw [h.2 _ h2 (by omega), if_neg (by omega), if_pos (by omega)]
    · rw [h.2 m (by omega) g2]
      by_cases hc : m < i ∨ l.length ≤ m + i
      · rw [if_pos hc, if_pos (by omega)]
      · rw [if_neg hc, if_neg (by omega)]
theorem RevTo.done {α : Type} {l cur : List α} {i : Nat} (h : RevTo l cur i) (hi : ¬ i < l.length - 1 - i) : cur = l.reverse := by
  apply List.ext_getElem
  · rw [h.1]; simp
  · intro m h1 h2
    have hl := h.1
    rw [h.2 m h1 (by omega), List.getElem_reverse]
    by_cases hc : m < i ∨ l.length ≤ m + i
    · rw [if_pos hc]
    · rw [if_neg hc]
      congr 1; omega

/-- A node stored into the four cells of a block: what is read back. -/
theorem res_cells {W : World} {R : Nat} {v0 v1 v2 v3 u0 u1 u2 u3 : Value} {T : TypeId} (h : W.heap[R]? = some (.cells #[v0, v1, v2, v3] T)) :
    ((((W.setCell ⟨R, 0, none⟩ u0).setCell ⟨R, 1, none⟩ u1).setCell ⟨R, 2, none⟩ u2).setCell ⟨R, 3, none⟩ u3).cell? ⟨R, 0, none⟩ = some u0 ∧ ((((W.setCell ⟨R, 0, none⟩ u0).setCell ⟨R, 1, none⟩ u1).setCell ⟨R, 2, none⟩ u2).setCell ⟨R, 3, none⟩ u3).cell? ⟨R, 1, none⟩ = some u1 ∧
    ((((W.setCell ⟨R, 0, none⟩ u0).setCell ⟨R, 1, none⟩ u1).setCell ⟨R, 2, none⟩ u2).setCell ⟨R, 3, none⟩ u3).cell? ⟨R, 2, none⟩ = some u2 ∧ ((((W.setCell ⟨R, 0, none⟩ u0).setCell ⟨R, 1, none⟩ u1).setCell ⟨R, 2, none⟩ u2).setCell ⟨R, 3, none⟩ u3).cell? ⟨R, 3, none⟩ = some u3 :=
  four_cells (by simpa using set_blk (set_blk (set_blk (set_blk h 0 u0) 1 u1) 2 u2) 3 u3)
theorem res_other {W : World} {R b : Nat} {u0 u1 u2 u3 : Value} (hb : b ≠ R) : ((((W.setCell ⟨R, 0, none⟩ u0).setCell ⟨R, 1, none⟩ u1).setCell ⟨R, 2, none⟩ u2).setCell ⟨R, 3, none⟩ u3).heap[b]? = W.heap[b]? := by
  rw [set_other hb, set_other hb, set_other hb, set_other hb]
theorem res_below {B : Nat} {w W : World} (hb : Below B w W) {R : Nat} (hR : B ≤ R) (u0 u1 u2 u3 : Value) : Below B w ((((W.setCell ⟨R, 0, none⟩ u0).setCell ⟨R, 1, none⟩ u1).setCell ⟨R, 2, none⟩ u2).setCell ⟨R, 3, none⟩ u3) :=
  (((hb.setCell (p := ⟨R, 0, none⟩) hR _).setCell (p := ⟨R, 1, none⟩) hR _).setCell (p := ⟨R, 2, none⟩) hR _).setCell (p := ⟨R, 3, none⟩) hR _
theorem res_own {W : World} {R : Nat} {u0 u1 u2 u3 : Value} {t : Node} {h : Hdr} (ho : t.Own W h) (hF : ¬ h.F R) : t.Own ((((W.setCell ⟨R, 0, none⟩ u0).setCell ⟨R, 1, none⟩ u1).setCell ⟨R, 2, none⟩ u2).setCell ⟨R, 3, none⟩ u3) h :=
  Node.Own.move t (fun x hx _ => res_other (fun e => hF (e ▸ hx))) ho
end Go.Proofs.YtgjanglonccclaaDoor
