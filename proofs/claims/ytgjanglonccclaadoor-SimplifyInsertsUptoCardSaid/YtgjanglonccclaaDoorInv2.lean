/- Contract of inverter.invert: a tree of the call's own is inverted in place. -/
import Derived.Test.YtgjanglonccclaaDoorOwn2
import Derived.Test.YtgjanglonccclaaDoorInv1
import Derived.Test.YtgjanglonccclaaDoorInvP2
import Derived.BigRegion
namespace Go.Proofs.YtgjanglonccclaaDoor
open Go.RowKit
set_option linter.unusedVariables false
set_option linter.unusedSimpArgs false

/-- What a call did to memory that turned one cell, and the blocks F besides. -/
structure Turned (w w' : World) (b o : Nat) (v : Value) (F : Nat → Prop) : Prop where
  os : w'.os = w.os
  tape : w'.tape = w.tape
  output : w'.output = w.output
  size : w.heap.size ≤ w'.heap.size
  block : ∀ x, x < w.heap.size → ¬ F x → w'.heap[x]? = (w.setCell ⟨b, o, none⟩ v).heap[x]?

def InvRuns (t : Node) : Prop := ∀ (h : Hdr) (b o : Nat) (w : World), t.Own w h → ¬ h.F b → w.frozen? ⟨b, o, none⟩ = false →
  w.cell? ⟨b, o, none⟩ = some (.int .u8 t.kind) → w.cell? ⟨b, o + 1, none⟩ = some (.int .i64 t.num) → w.cell? ⟨b, o + 2, none⟩ = some (.string t.name) → w.cell? ⟨b, o + 3, none⟩ = some (.slice h.A t.kids.length h.c) →
  Calls Tryd.prog 60 #[.pointer (some ⟨b, o, none⟩)] w fun e w' => e = .returned (.tuple #[]) ∧ Turned w w' b o (.int .u8 (invKind t.kind)) h.F ∧ t.inv.Own w' h

theorem Turned.below {w w1 : World} (hb : Below w.heap.size w w1) {b o : Nat} {v : Value} {F : Nat → Prop} (hlt : b < w.heap.size) : Turned w (w1.setCell ⟨b, o, none⟩ v) b o v F :=
  ⟨hb.os, hb.tape, hb.output, by have := hb.size; simpa [World.setCell] using this, fun x hx _ => by
    by_cases hxb : x = b
    · subst hxb
      have e := hb.block x hx
      simp only [World.setCell, Array.getElem?_modify, if_true, e]
    · rw [set_other hxb, set_other hxb, hb.block x hx]⟩
/-- The cells of the turned block, but for the one that was turned, are as they were. -/
theorem Turned.cell {w w' : World} {b o : Nat} {v : Value} {F : Nat → Prop} (T : Turned w w' b o v F) (hF : ¬ F b) {i : Nat} {u : Value} (hi : i ≠ o) (hc : w.cell? ⟨b, i, none⟩ = some u) : w'.cell? ⟨b, i, none⟩ = some u := by
  have hlt : b < w.heap.size := World.block_lt_of_cell? _ _ hc
  rw [World.cell?_of_block (w := w.setCell ⟨b, o, none⟩ v) (T.block b hlt hF), World.cell?_setCell_other (w := w) (a := ⟨b, o, none⟩) (b := ⟨b, i, none⟩) (v := v) (by intro e; injection e with _ e; exact hi e.symm)]
  exact hc
theorem Turned.cell_at {w w' : World} {b o : Nat} {v : Value} {F : Nat → Prop} (T : Turned w w' b o v F) (hF : ¬ F b) {u : Value} (hc : w.cell? ⟨b, o, none⟩ = some u) : w'.cell? ⟨b, o, none⟩ = some v := by
  have hlt : b < w.heap.size := World.block_lt_of_cell? _ _ hc
  rw [World.cell?_of_block (w := w.setCell ⟨b, o, none⟩ v) (T.block b hlt hF)]
  exact World.cell?_setCell_same (w := w) (a := ⟨b, o, none⟩) (v := v) hc
theorem Turned.other {w w' : World} {b o : Nat} {v : Value} {F : Nat → Prop} (T : Turned w w' b o v F) {x : Nat} (hx : x < w.heap.size) (hb : x ≠ b) (hF : ¬ F x) : w'.heap[x]? = w.heap[x]? := by
  rw [T.block x hx hF, set_other hb]

theorem Turned.keeps {w w' : World} {b o : Nat} {v : Value} {F : Nat → Prop} (T : Turned w w' b o v F) {B : Nat} (hb : B ≤ b) (hF : ∀ x, F x → B ≤ x) (hB : B ≤ w.heap.size) : Below B w w' :=
  ⟨T.os, T.tape, T.output, T.size, fun x hx => T.other (by omega) (by omega) (fun h => by have := hF x h; omega)⟩
/-- One element of an owned row, turned in place. -/
theorem OwnParts.turn {W W' : World} {ks : List Node} {h : Hdr} {hs : List Hdr} (p : OwnParts W ks h hs) {g : Nat} (hA : h.A = some ⟨g, 0, none⟩) (j : Nat) (hj : j < ks.length) (hj' : j < hs.length) (u : Node)
    (T : Turned W W' g (j * 4) (.int .u8 u.kind) hs[j].F) (hu : u.Own W' hs[j]) (h1 : u.num = ks[j].num) (h2 : u.name = ks[j].name) (h3 : u.kids.length = ks[j].kids.length) : OwnParts W' (ks.set j u) h hs := by
  have hv : h.val ks.length = .slice (some ⟨g, 0, none⟩) ks.length h.c := by simp [Hdr.val, hA]
  have hlen := p.kids.len
  have hm := p.mine g (by rw [hv]; rfl)
  have hrow := p.row
  rw [hv] at hrow
  have hg := row_lt hrow rfl
  refine ⟨?_, ?_, ?_, p.sub, p.apart⟩
  · rw [KidsOwn.iff]
    refine ⟨by simp [hlen], fun m g1 g2 => ?_⟩
    rw [List.getElem_set]
    split
    · rename_i e; subst e; exact hu
    · rename_i hne
      refine Node.Own.move _ (fun x hx hlt => ?_) ((KidsOwn.iff.1 p.kids).2 m (by simpa using g1) g2)
      refine T.other hlt (fun e => hm.2 _ (List.getElem_mem g2) (e ▸ hx)) (fun hF => ?_)
      have hap := List.pairwise_iff_getElem.1 p.apart
      rcases Nat.lt_or_ge m j with hlt' | hge
      · exact hap m j g2 hj' hlt' x hx hF
      · exact hap j m hj' g2 (by omega) x hF hx
  · have hst := (hrow.stored (j * 4) (.int .u8 u.kind)).1
    have hset : (valsAll ks hs).set (j * 4) (.int .u8 u.kind) = valsAll (ks.set j u) hs := by
      have e := valsAll_set j u hs[j] hlen hj
      rw [List.set_getElem_self] at e
      rw [← e]
      apply List.ext_getElem?
      intro m
      have hL : (valsAll ks hs).length = ks.length * 4 := valsAll_length hlen
      have a1 := valsAll_at j 1 hj hj' (by omega)
      have a2 := valsAll_at j 2 hj hj' (by omega)
      have a3 := valsAll_at j 3 hj hj' (by omega)
      simp only [Node.vals, List.getElem?_cons_succ, List.getElem?_cons_zero] at a1 a2 a3
      rw [List.getElem?_set, List.getElem?_set, List.getElem?_set, List.getElem?_set, List.getElem?_set]
      simp only [List.length_set]
      by_cases m3 : j * 4 + 3 = m
      · subst m3; rw [if_neg (by omega), if_pos rfl, if_pos (by omega), a3, h3]
      · rw [if_neg m3]
        by_cases m2 : j * 4 + 2 = m
        · subst m2; rw [if_neg (by omega), if_pos rfl, if_pos (by omega), a2, h2]
        · rw [if_neg m2]
          by_cases m1 : j * 4 + 1 = m
          · subst m1; rw [if_neg (by omega), if_pos rfl, if_pos (by omega), a1, h1]
          · rw [if_neg m1]
    rw [List.length_set, hv, ← hset]
    exact row_of_block hst fun q hq => by
      obtain rfl : g = q := by simpa [Value.ownBlock] using hq
      exact T.block g hg (hm.2 _ (List.getElem_mem hj'))
  · intro b hb
    rw [List.length_set] at hb
    exact p.mine b hb

/-- While invert goes through the children. -/
structure InvState (w W : World) (t : Node) (h : Hdr) (b o : Nat) (ks : List Node) (hs : List Hdr) : Prop where
  turned : Turned w W b o (.int .u8 (invKind t.kind)) h.F
  parts : OwnParts W ks h hs
  len : ks.length = t.kids.length
/-- A list of which the first j elements have gone through f. -/
def mixAt (f : Node → Node) (l : List Node) (j : Nat) : List Node := (l.take j).map f ++ l.drop j
theorem mixAt_length (f : Node → Node) (l : List Node) (j : Nat) : (mixAt f l j).length = l.length := by simp [mixAt]; omega
theorem mixAt_at (f : Node → Node) (l : List Node) (j : Nat) (hj : j < l.length) (h : j < (mixAt f l j).length) : (mixAt f l j)[j] = l[j] := by
  unfold mixAt at h ⊢
  rw [List.getElem_append_right (by simp; omega)]
  simp [Nat.min_eq_left (Nat.le_of_lt hj)]
theorem mixAt_set (f : Node → Node) (l : List Node) (j : Nat) (hj : j < l.length) : (mixAt f l j).set j (f l[j]) = mixAt f l (j + 1) := by
  unfold mixAt
  have e : j - ((l.take j).map f).length = 0 := by simp; omega
  rw [List.set_append_right _ _ (by simp; omega), e, List.take_succ_eq_append_getElem hj, List.drop_eq_getElem_cons hj, List.set_cons_zero, List.map_append, List.append_assoc]
  rfl
theorem mixAt_skip (f : Node → Node) (l : List Node) (j : Nat) (hj : j < l.length) (hf : f l[j] = l[j]) : mixAt f l j = mixAt f l (j + 1) := by
  rw [← mixAt_set f l j hj, hf, ← mixAt_at f l j hj (by rw [mixAt_length]; exact hj), List.set_getElem_self]
theorem mixAt_zero (f : Node → Node) (l : List Node) : mixAt f l 0 = l := by simp [mixAt]
theorem mixAt_full (f : Node → Node) (l : List Node) : mixAt f l l.length = l.map f := by simp [mixAt]
/-- A child inverted. -/
theorem InvState.next {w W W' : World} {t : Node} {h : Hdr} {b o : Nat} {ks : List Node} {hs : List Hdr} (S : InvState w W t h b o ks hs) (hF : ¬ h.F b) {g : Nat} (hA : h.A = some ⟨g, 0, none⟩) (j : Nat) (hj : j < ks.length) (hj' : j < hs.length)
    (T : Turned W W' g (j * 4) (.int .u8 (invKind ks[j].kind)) hs[j].F) (hu : ks[j].inv.Own W' hs[j]) : InvState w W' t h b o (ks.set j ks[j].inv) hs := by
  have hv : h.val ks.length = .slice (some ⟨g, 0, none⟩) ks.length h.c := by simp [Hdr.val, hA]
  have hg := (S.parts.mine g (by rw [hv]; rfl)).1
  refine ⟨⟨T.os.trans S.turned.os, T.tape.trans S.turned.tape, T.output.trans S.turned.output, Nat.le_trans S.turned.size T.size, fun x hx hFx => ?_⟩, S.parts.turn hA j hj hj' _ (by rw [Node.inv_kind]; exact T) hu (Node.inv_num _) (Node.inv_name _) (Node.inv_kids_length _), by simpa using S.len⟩
  rw [T.other (Nat.lt_of_lt_of_le hx S.turned.size) (fun e => hFx (e ▸ hg)) (fun h1 => hFx (S.parts.sub _ (List.getElem_mem hj') _ h1))]
  exact S.turned.block x hx hFx

theorem OwnParts.same {W W' : World} {ks : List Node} {h : Hdr} {hs : List Hdr} (p : OwnParts W ks h hs) (hb : ∀ x : Nat, W'.heap[x]? = W.heap[x]?) : OwnParts W' ks h hs :=
  ⟨KidsOwn.iff.2 ⟨p.kids.len, fun j g1 g2 => Node.Own.move _ (fun x _ _ => hb x) ((KidsOwn.iff.1 p.kids).2 j g1 g2)⟩, row_of_block p.row fun g hg => hb g, p.mine, p.sub, p.apart⟩
theorem InvState.drew {w W : World} {t : Node} {h : Hdr} {b o : Nat} {ks : List Node} {hs : List Hdr} (S : InvState w W t h b o ks hs) : InvState w W.drew t h b o ks hs :=
  ⟨⟨S.turned.os, S.turned.tape, S.turned.output, S.turned.size, S.turned.block⟩, S.parts.same (fun x => (show W.drew.heap[x]? = W.heap[x]? from rfl)), S.len⟩
theorem swapEnds4 (l : List Node) (hn : l.length = 4) (h0 : 0 < l.length) (h3 : 3 < l.length) : swapEnds l = swapped l 0 3 h0 h3 := by
  rcases l with _ | ⟨x0, _ | ⟨x1, _ | ⟨x2, _ | ⟨x3, _ | ⟨x4, r⟩⟩⟩⟩⟩
  · simp at hn
  · simp at hn
  · simp at hn
  · simp at hn
  · rfl
  · simp at hn
theorem swapEnds3 (l : List Node) (hn : l.length = 3) (h0 : 0 < l.length) (h3 : 2 < l.length) : swapEnds l = swapped l 0 2 h0 h3 := by
  rcases l with _ | ⟨x0, _ | ⟨x1, _ | ⟨x2, _ | ⟨x3, r⟩⟩⟩⟩
  · simp at hn
  · simp at hn
  · simp at hn
  · rfl
  · simp at hn
/-- Two children exchanged. -/
theorem InvState.swap {w W : World} {t : Node} {h : Hdr} {b o : Nat} {ks : List Node} {hs : List Hdr} (S : InvState w W t h b o ks hs) {g : Nat} (hA : h.A = some ⟨g, 0, none⟩) (i j : Nat) (hi : i < ks.length) (hj : j < ks.length) (hi' : i < hs.length) (hj' : j < hs.length) :
    InvState w (set4 (set4 W g (i * 4) ks[j] hs[j]) g (j * 4) ks[i] hs[i]) t h b o (swapped ks i j hi hj) (swapped hs i j hi' hj') := by
  have hv : h.val ks.length = .slice (some ⟨g, 0, none⟩) ks.length h.c := by simp [Hdr.val, hA]
  have hg := (S.parts.mine g (by rw [hv]; rfl)).1
  have hp := S.parts.swap hA i j hi hj hi' hj'
  have h4 : ∀ (X : World) (q : Nat) (u : Node) (z : Hdr), (set4 X g q u z).os = X.os ∧ (set4 X g q u z).tape = X.tape ∧ (set4 X g q u z).output = X.output := fun X q u z => set4_drawn
  have hos := (h4 (set4 W g (i * 4) ks[j] hs[j]) (j * 4) ks[i] hs[i]).1.trans (h4 W (i * 4) ks[j] hs[j]).1
  have hta := (h4 (set4 W g (i * 4) ks[j] hs[j]) (j * 4) ks[i] hs[i]).2.1.trans (h4 W (i * 4) ks[j] hs[j]).2.1
  have hou := (h4 (set4 W g (i * 4) ks[j] hs[j]) (j * 4) ks[i] hs[i]).2.2.trans (h4 W (i * 4) ks[j] hs[j]).2.2
  have hsz : (set4 (set4 W g (i * 4) ks[j] hs[j]) g (j * 4) ks[i] hs[i]).heap.size = W.heap.size := by rw [set4_size, set4_size]
  have hbl : ∀ x, x ≠ g → (set4 (set4 W g (i * 4) ks[j] hs[j]) g (j * 4) ks[i] hs[i]).heap[x]? = W.heap[x]? := fun x hx => by rw [set4_other hx, set4_other hx]
  generalize set4 (set4 W g (i * 4) ks[j] hs[j]) g (j * 4) ks[i] hs[i] = Z at hp hos hta hou hsz hbl ⊢
  refine ⟨⟨hos.trans S.turned.os, hta.trans S.turned.tape, hou.trans S.turned.output, by rw [hsz]; exact S.turned.size, fun x hx hFx => ?_⟩, hp, by rw [swapped_length]; exact S.len⟩
  rw [hbl x (fun e => hFx (by rw [e]; exact hg))]
  exact S.turned.block x hx hFx
end Go.Proofs.YtgjanglonccclaaDoor
