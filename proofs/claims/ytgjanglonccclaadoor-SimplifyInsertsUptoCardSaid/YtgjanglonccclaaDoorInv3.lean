/- Contract of inverter.invert: the walk. -/
import Derived.Test.YtgjanglonccclaaDoorInv2
import Derived.BigRegion
import Derived.StillTailTactics
namespace Go.Proofs.YtgjanglonccclaaDoor
open Go.RowKit
set_option linter.unusedVariables false
set_option linter.unusedSimpArgs false

/-- What every part of the walk knows. -/
structure InvPre (w : World) (t : Node) (h : Hdr) (b o : Nat) (hs : List Hdr) : Prop where
  parts : OwnParts w t.kids h hs
  nF : ¬ h.F b
  fr : w.frozen? ⟨b, o, none⟩ = false
  c0 : w.cell? ⟨b, o, none⟩ = some (.int .u8 t.kind)
  c1 : w.cell? ⟨b, o + 1, none⟩ = some (.int .i64 t.num)
  c2 : w.cell? ⟨b, o + 2, none⟩ = some (.string t.name)
  c3 : w.cell? ⟨b, o + 3, none⟩ = some (.slice h.A t.kids.length h.c)

theorem InvPre.start {w w1 : World} {t : Node} {h : Hdr} {b o : Nat} {hs : List Hdr} (p : InvPre w t h b o hs) (hb : Below w.heap.size w w1) :
    InvState w (w1.setCell ⟨b, o, none⟩ (.int .u8 (invKind t.kind))) t h b o t.kids hs := by
  have hlt : b < w.heap.size := World.block_lt_of_cell? _ _ p.c0
  refine ⟨Turned.below hb hlt, ?_, rfl⟩
  have q := p.parts.below hb
  have hne : ∀ x, h.F x → x ≠ b := fun x hx e => p.nF (e ▸ hx)
  refine ⟨KidsOwn.iff.2 ⟨q.kids.len, fun j g1 g2 => Node.Own.move _ (fun x hx _ => set_other (hne x (q.sub _ (List.getElem_mem g2) x hx))) ((KidsOwn.iff.1 q.kids).2 j g1 g2)⟩, row_of_block q.row fun g hg => set_other (hne g (q.mine g hg).1), q.mine, q.sub, q.apart⟩
theorem InvState.c0 {w W : World} {t : Node} {h : Hdr} {b o : Nat} {ks : List Node} {hs hs' : List Hdr} (S : InvState w W t h b o ks hs) (p : InvPre w t h b o hs') : W.cell? ⟨b, o, none⟩ = some (.int .u8 (invKind t.kind)) := S.turned.cell_at p.nF p.c0
theorem InvState.c3 {w W : World} {t : Node} {h : Hdr} {b o : Nat} {ks : List Node} {hs hs' : List Hdr} (S : InvState w W t h b o ks hs) (p : InvPre w t h b o hs') : W.cell? ⟨b, o + 3, none⟩ = some (.slice h.A t.kids.length h.c) := S.turned.cell p.nF (by omega) p.c3
/-- Child j in the list as it now stands. -/
theorem InvState.at_ {w W : World} {t : Node} {h : Hdr} {b o : Nat} {ks : List Node} {hs : List Hdr} (S : InvState w W t h b o ks hs) (j : Nat) (hj : j < ks.length) (u : Node) (hu : ks[j] = u) :
    ∃ (g : Nat) (h2 : j < hs.length), h.A = some ⟨g, 0, none⟩ ∧ ¬ hs[j].F g ∧ W.frozen? ⟨g, j * 4, none⟩ = false ∧ W.cell? ⟨g, j * 4, none⟩ = some (.int .u8 u.kind) ∧ W.cell? ⟨g, j * 4 + 1, none⟩ = some (.int .i64 u.num) ∧
      W.cell? ⟨g, j * 4 + 2, none⟩ = some (.string u.name) ∧ W.cell? ⟨g, j * 4 + 3, none⟩ = some (.slice hs[j].A u.kids.length hs[j].c) ∧ u.Own W hs[j] := by
  subst hu
  obtain ⟨g, h2, hA, _, _, hf, e0, e1, e2, e3, e4⟩ := S.parts.at_ j hj
  have hv : h.val ks.length = .slice (some ⟨g, 0, none⟩) ks.length h.c := by simp [Hdr.val, hA]
  exact ⟨g, h2, hA, (S.parts.mine g (by rw [hv]; rfl)).2 _ (List.getElem_mem h2), hf _, e0, e1, e2, e3, e4⟩

set_option maxHeartbeats 4000000 in
set_option maxRecDepth 100000 in
theorem invert_plain (t : Node) (ih : ∀ k ∈ t.kids, (k.kind == 57) = true → InvRuns k) (hk : (invKind t.kind == 52) = false) (hk2 : (invKind t.kind == 53) = false) (hk3 : (invKind t.kind == 54) = false) (hk4 : (invKind t.kind == 57) = false)
    (A : Option Addr) (c : Nat) (F : Nat → Prop) (b o : Nat) (w : World) (hs : List Hdr) (hp : InvPre w t ⟨A, c, F⟩ b o hs) (hl : (t.kids.length : Int) ≤ 2513169434916) :
    Calls Tryd.prog 60 #[.pointer (some ⟨b, o, none⟩)] w fun e w' => e = .returned (.tuple #[]) ∧ InvState w w' t ⟨A, c, F⟩ b o (t.kids.map invB) hs := by
  have HV := Hd.mk (inverse_any t.kind w)
  have HP := Hd.mk hp
  have IH := Hd.mk ih
  have d0 := hp.c0
  have d3 := hp.c3
  have dF := hp.fr
  dsimp only at d3
  clear hp ih
  go_enter Tryd.func60, Tryd.ntmps60
  go_wp2_with (go_at_call 84; refine (HV.out).mono ?_; rintro e w1 ⟨rfl, hb⟩; have g0 := (hb.cell (p := ⟨b, o, none⟩) (World.block_lt_of_cell? _ _ d0)).trans d0; have g3 := (hb.cell (p := ⟨b, o + 3, none⟩) (World.block_lt_of_cell? _ _ d3)).trans d3; have gF := (hb.frozen (p := ⟨b, o, none⟩) (World.block_lt_of_cell? _ _ d0)).trans dF)
  go_loopw [2, 19] (fun v2 v19 W => ∃ j : Nat, j ≤ t.kids.length ∧ v19 = .int .i64 j ∧ InvState w W t ⟨A, c, F⟩ b o (mixAt invB t.kids j) hs) (fun _ v19 _ => t.kids.length - (intOf v19).toNat)
  case atStart => exact ⟨0, Nat.zero_le _, rfl, by rw [mixAt_zero]; exact HP.out.start hb⟩
  case round =>
    obtain ⟨j, hj, rfl, S⟩ := hrel
    have s0 := S.c0 HP.out
    have s3 := S.c3 HP.out
    dsimp only at s3
    by_cases hlt : j < t.kids.length
    · have hlm : j < (mixAt invB t.kids j).length := by rw [mixAt_length]; exact hlt
      obtain ⟨g, h2, hA, hnF, hfr, e0, e1, e2, e3, e4⟩ := S.at_ j hlm t.kids[j] (mixAt_at _ _ _ hlt hlm)
      obtain rfl : A = some ⟨g, 0, none⟩ := hA
      have S2 := Hd.mk S
      have HLM := Hd.mk hlm
      clear S hlm
      cases hkj : (t.kids[j].kind == 57)
      · go_wp2_with fail
        go_roundw
        case rel =>
          refine ⟨j + 1, hlt, by go_num, ?_⟩
          rw [← mixAt_skip invB t.kids j hlt (by simp [invB, hkj])]
          exact S2.out
        case measure => simp [intOf]; omega
      · have HC := Hd.mk (IH.out t.kids[j] (List.getElem_mem _) hkj hs[j] g (j * 4) wr e4 hnF hfr e0 e1 e2 e3)
        go_wp2_with (go_at_call 60; refine (HC.out).mono ?_; rintro e w2 ⟨rfl, hT, hO⟩)
        go_roundw
        case rel =>
          refine ⟨j + 1, hlt, by go_num, ?_⟩
          have e5 := mixAt_at invB t.kids j hlt HLM.out
          have hn := S2.out.next HP.out.nF rfl j HLM.out h2 (by rw [e5]; exact hT) (by rw [e5]; exact hO)
          rw [e5] at hn
          rw [← mixAt_set invB t.kids j hlt]
          have e6 : invB t.kids[j] = t.kids[j].inv := by simp [invB, hkj]
          rw [e6]; exact hn
        case measure => simp [intOf]; omega
    · have : j = t.kids.length := by omega
      subst this
      rw [mixAt_full] at S
      have S2 := Hd.mk S
      clear S
      go_wp2_with fail
      all_goals
        go_end0
        exact ⟨rfl, S2.out⟩
end Go.Proofs.YtgjanglonccclaaDoor
