/- Still more on trees of the call's own: an element replaced by another tree. -/
import Derived.Test.YtgjanglonccclaaDoorOwn2
namespace Go.Proofs.YtgjanglonccclaaDoor
open Go.RowKit
set_option linter.unusedVariables false
set_option linter.unusedSimpArgs false

theorem OwnParts.mono {w : World} {ks : List Node} {h : Hdr} {hs : List Hdr} (p : OwnParts w ks h hs) {F : Nat → Prop} (hF : ∀ x, h.F x → F x) : OwnParts w ks { h with F := F } hs :=
  ⟨p.kids, p.row, fun b hb => ⟨hF b (p.mine b hb).1, (p.mine b hb).2⟩, fun g hg x hx => hF x (p.sub g hg x hx), p.apart⟩
theorem OwnParts.tight {w : World} {ks : List Node} {h : Hdr} {hs : List Hdr} (p : OwnParts w ks h hs) : OwnParts w ks (h.tight w) (hs.map (Hdr.tight w)) := by
  refine ⟨?_, ?_, ?_, ?_, ?_⟩
  · rw [KidsOwn.iff]
    refine ⟨by simp [p.kids.len], fun j g1 g2 => ?_⟩
    rw [List.getElem_map]
    exact Node.Own.tight _ ((KidsOwn.iff.1 p.kids).2 j g1 (by simpa using g2))
  · rw [valsAll_tight]; exact p.row
  · intro b hb
    refine ⟨⟨(p.mine b hb).1, row_lt p.row hb⟩, fun g hg hF => ?_⟩
    obtain ⟨g0, hg0, rfl⟩ := List.mem_map.1 hg
    exact (p.mine b hb).2 g0 hg0 hF.1
  · intro g hg x hx
    obtain ⟨g0, hg0, rfl⟩ := List.mem_map.1 hg
    exact ⟨p.sub g0 hg0 x hx.1, hx.2⟩
  · rw [List.pairwise_map]
    exact p.apart.imp fun hd x h1 h2 => hd x h1.1 h2.1
/-- The parts stand where their blocks stand. -/
theorem OwnParts.move {w w' : World} {ks : List Node} {h : Hdr} {hs : List Hdr} (p : OwnParts w ks h hs) (hb : ∀ x, h.F x → x < w.heap.size → w'.heap[x]? = w.heap[x]?) : OwnParts w' ks h hs :=
  ⟨KidsOwn.iff.2 ⟨p.kids.len, fun j g1 g2 => Node.Own.move _ (fun x hx hlt => hb x (p.sub _ (List.getElem_mem g2) x hx) hlt) ((KidsOwn.iff.1 p.kids).2 j g1 g2)⟩, row_of_block p.row fun g hg => hb g (p.mine g hg).1 (row_lt p.row hg), p.mine, p.sub, p.apart⟩

/-- Element j replaced by another tree of the call's own. -/
theorem OwnParts.put {W : World} {ks : List Node} {h : Hdr} {hs : List Hdr} (p : OwnParts W ks h hs) {g : Nat} (hA : h.A = some ⟨g, 0, none⟩) (j : Nat) (hj : j < ks.length) (u : Node) (hu : Hdr) (huo : u.Own W hu) (hd : ∀ x, hu.F x → ¬ h.F x) :
    OwnParts (set4 W g (j * 4) u hu) (ks.set j u) { h with F := fun x => h.F x ∨ hu.F x } (hs.set j hu) := by
  have hlen := p.kids.len
  have hv : h.val ks.length = .slice (some ⟨g, 0, none⟩) ks.length h.c := by simp [Hdr.val, hA]
  have hm := p.mine g (by rw [hv]; rfl)
  have hgu : ∀ x, hu.F x → x ≠ g := fun x hx e => hd x hx (e ▸ hm.1)
  refine ⟨?_, ?_, ?_, ?_, ?_⟩
  · rw [KidsOwn.iff]
    refine ⟨by simp [hlen], fun m h1 h2 => ?_⟩
    rw [List.getElem_set, List.getElem_set]
    split
    · exact Node.Own.move _ (fun x hx _ => set4_other (hgu x hx)) huo
    · have h1' : m < ks.length := by simpa using h1
      have h2' : m < hs.length := by simpa using h2
      exact Node.Own.move _ (fun x hx _ => set4_other (fun e => hm.2 _ (List.getElem_mem h2') (e ▸ hx))) ((KidsOwn.iff.1 p.kids).2 m h1' h2')
  · have hr := p.row
    rw [hv] at hr
    have h1 := row_put hr hlen hj u hu
    have hv2 : Hdr.val { h with F := fun x => h.F x ∨ hu.F x } (ks.set j u).length = .slice (some ⟨g, 0, none⟩) ks.length h.c := by simp [Hdr.val, hA]
    rw [hv2, List.length_set]
    exact h1
  · intro b hb
    have hb' : (h.val ks.length).ownBlock = some b := by simpa [Hdr.val] using hb
    obtain rfl : b = g := by rw [hv] at hb'; simpa [Value.ownBlock] using hb'.symm
    refine ⟨.inl hm.1, fun g1 h1 => ?_⟩
    rcases List.mem_or_eq_of_mem_set h1 with h1 | rfl
    · exact hm.2 g1 h1
    · exact fun hx => hgu _ hx rfl
  · intro g1 h1 x hx
    rcases List.mem_or_eq_of_mem_set h1 with h1 | rfl
    · exact .inl (p.sub g1 h1 x hx)
    · exact .inr hx
  · rw [List.pairwise_iff_getElem]
    intro i k hi hk hik x h1 h2
    rw [List.getElem_set] at h1 h2
    have hi' : i < hs.length := by simpa using hi
    have hk' : k < hs.length := by simpa using hk
    split at h1
    · split at h2
      · omega
      · exact hd x h1 (p.sub _ (List.getElem_mem hk') x h2)
    · split at h2
      · exact hd x h2 (p.sub _ (List.getElem_mem hi') x h1)
      · exact List.pairwise_iff_getElem.1 p.apart i k hi' hk' hik x h1 h2
end Go.Proofs.YtgjanglonccclaaDoor
