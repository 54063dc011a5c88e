/- Contract of inverter.invert: the walk. -/
import Derived.Test.YtgjanglonccclaaDoorInv3
import Derived.BigRegion
import Derived.StillTailTactics
namespace Go.Proofs.YtgjanglonccclaaDoor
open Go.RowKit
set_option linter.unusedVariables false
set_option linter.unusedSimpArgs false

set_option maxHeartbeats 4000000 in
set_option maxRecDepth 100000 in
theorem invert_swap4 (t : Node) (ih : ∀ k ∈ t.kids, (k.kind == 57) = true → InvRuns k) (hk : (invKind t.kind == 52) = true ∨ (invKind t.kind == 53) = true) (hn : t.kids.length = 4)
    (A : Option Addr) (c : Nat) (F : Nat → Prop) (b o : Nat) (w : World) (hs : List Hdr) (hp : InvPre w t ⟨A, c, F⟩ b o hs) (hl : (t.kids.length : Int) ≤ 2513169434916) :
    Calls Tryd.prog 60 #[.pointer (some ⟨b, o, none⟩)] w fun e w' => e = .returned (.tuple #[]) ∧ ∃ hs', InvState w w' t ⟨A, c, F⟩ b o (swapEnds (t.kids.map invB)) hs' := by
  have HN := Hd.mk hn
  have HK := Hd.mk hk
  clear hn hk
  have HV := Hd.mk (inverse_any t.kind w)
  have HP := Hd.mk hp
  have IH := Hd.mk ih
  have d0 := hp.c0
  have d3 := hp.c3
  have dF := hp.fr
  dsimp only at d3
  clear hp ih
  go_enter Tryd.func60, Tryd.ntmps60
  go_wp2_with (go_at_call 84; refine (HV.out).mono ?_; rintro e w1 ⟨rfl, hb⟩; have g0 := (hb.cell (p := ⟨b, o, none⟩) (World.block_lt_of_cell? _ _ d0)).trans d0; have g3 := (hb.cell (p := ⟨b, o + 3, none⟩) (World.block_lt_of_cell? _ _ d3)).trans d3; have gF := (hb.frozen (p := ⟨b, o, none⟩) (World.block_lt_of_cell? _ _ d0)).trans dF)
  go_loopw [2, 19] (fun v2 v19 W => ∃ j : Nat, j ≤ t.kids.length ∧ v19 = .int .i64 j ∧ InvState w W t ⟨A, c, F⟩ b o (mixAt invB t.kids j) hs) (fun _ v19 _ => t.kids.length - (intOf v19).toNat)
  case atStart => exact ⟨0, Nat.zero_le _, rfl, by rw [mixAt_zero]; exact HP.out.start hb⟩
  case round =>
    obtain ⟨j, hj, rfl, S⟩ := hrel
    have s0 := S.c0 HP.out
    have s3 := S.c3 HP.out
    dsimp only at s3
    by_cases hlt : j < t.kids.length
    · have hlm : j < (mixAt invB t.kids j).length := by rw [mixAt_length]; exact hlt
      obtain ⟨g, h2, hA, hnF, hfr, e0, e1, e2, e3, e4⟩ := S.at_ j hlm t.kids[j] (mixAt_at _ _ _ hlt hlm)
      obtain rfl : A = some ⟨g, 0, none⟩ := hA
      have S2 := Hd.mk S
      have HLM := Hd.mk hlm
      clear S hlm
      cases hkj : (t.kids[j].kind == 57)
      · go_wp2_with fail
        go_roundw
        case rel =>
          refine ⟨j + 1, hlt, by go_num, ?_⟩
          rw [← mixAt_skip invB t.kids j hlt (by simp [invB, hkj])]
          exact S2.out
        case measure => simp [intOf]; omega
      · have HC := Hd.mk (IH.out t.kids[j] (List.getElem_mem _) hkj hs[j] g (j * 4) wr e4 hnF hfr e0 e1 e2 e3)
        go_wp2_with (go_at_call 60; refine (HC.out).mono ?_; rintro e w2 ⟨rfl, hT, hO⟩)
        go_roundw
        case rel =>
          refine ⟨j + 1, hlt, by go_num, ?_⟩
          have e5 := mixAt_at invB t.kids j hlt HLM.out
          have hn := S2.out.next HP.out.nF rfl j HLM.out h2 (by rw [e5]; exact hT) (by rw [e5]; exact hO)
          rw [e5] at hn
          rw [← mixAt_set invB t.kids j hlt]
          have e6 : invB t.kids[j] = t.kids[j].inv := by simp [invB, hkj]
          rw [e6]; exact hn
        case measure => simp [intOf]; omega
    · have : j = t.kids.length := by omega
      subst this
      rw [mixAt_full] at S
      obtain ⟨g, k0, hA, _, _, hfr, e0, e1, e2, e3, e4⟩ := S.parts.at_ 0 (by simp [HN.out])
      obtain rfl : A = some ⟨g, 0, none⟩ := hA
      obtain ⟨g', k1, hA', _, _, _, f0, f1, f2, f3, f4⟩ := S.parts.at_ 3 (by simp [HN.out])
      obtain rfl : g' = g := by injection hA' with q; injection q with q; exact q.symm
      simp only [Nat.zero_mul, Nat.zero_add, Nat.reduceMul, Nat.reduceAdd] at e0 e1 e2 e3 f0 f1 f2 f3
      have r0 := hfr 0
      have r1 := hfr 1
      have r2 := hfr 2
      have r3 := hfr 3
      have r12 := hfr 12
      have r13 := hfr 13
      have r14 := hfr 14
      have r15 := hfr 15
      have S2 := Hd.mk S
      have hn := HN.out
      clear S e4 f4 hA' hfr
      obtain ⟨u0, hu0⟩ : ∃ u, (t.kids.map invB)[0]'(by simp [HN.out]) = u := ⟨_, rfl⟩
      obtain ⟨u3, hu3⟩ : ∃ u, (t.kids.map invB)[3]'(by simp [HN.out]) = u := ⟨_, rfl⟩
      obtain ⟨q0, hq0⟩ : ∃ q, hs[0] = q := ⟨_, rfl⟩
      obtain ⟨q3, hq3⟩ : ∃ q, hs[3] = q := ⟨_, rfl⟩
      rw [hu0] at e0 e1 e2 e3
      rw [hu3] at f0 f1 f2 f3
      rw [hq0] at e3
      rw [hq3] at f3
      have HU0 := Hd.mk hu0
      have HU3 := Hd.mk hu3
      have HQ0 := Hd.mk hq0
      have HQ3 := Hd.mk hq3
      clear hu0 hu3 hq0 hq3 HV IH d0 d3 dF g0 g3 gF hlt
      rcases HK.out with hk | hk
      all_goals
        go_wp2_with fail
        go_region
        go_wp2_with fail
        go_end0
        have hl3 : 3 < (t.kids.map invB).length := by simp [HN.out]
        have hl0 : 0 < (t.kids.map invB).length := by simp [HN.out]
        have Z := S2.out.swap rfl 0 3 hl0 hl3 k0 k1
        rw [HU0.out, HU3.out, HQ0.out, HQ3.out] at Z
        refine ⟨rfl, swapped hs 0 3 k0 k1, ?_⟩
        rw [swapEnds4 _ (by simp [HN.out]) hl0 hl3]
        exact Z.drew

set_option maxHeartbeats 4000000 in
set_option maxRecDepth 100000 in
theorem invert_swap3 (t : Node) (ih : ∀ k ∈ t.kids, (k.kind == 57) = true → InvRuns k) (hk : (invKind t.kind == 54) = true) (hn : t.kids.length = 3)
    (A : Option Addr) (c : Nat) (F : Nat → Prop) (b o : Nat) (w : World) (hs : List Hdr) (hp : InvPre w t ⟨A, c, F⟩ b o hs) (hl : (t.kids.length : Int) ≤ 2513169434916) :
    Calls Tryd.prog 60 #[.pointer (some ⟨b, o, none⟩)] w fun e w' => e = .returned (.tuple #[]) ∧ ∃ hs', InvState w w' t ⟨A, c, F⟩ b o (swapEnds (t.kids.map invB)) hs' := by
  have HN := Hd.mk hn
  have HK := Hd.mk hk
  clear hn hk
  have HV := Hd.mk (inverse_any t.kind w)
  have HP := Hd.mk hp
  have IH := Hd.mk ih
  have d0 := hp.c0
  have d3 := hp.c3
  have dF := hp.fr
  dsimp only at d3
  clear hp ih
  go_enter Tryd.func60, Tryd.ntmps60
  go_wp2_with (go_at_call 84; refine (HV.out).mono ?_; rintro e w1 ⟨rfl, hb⟩; have g0 := (hb.cell (p := ⟨b, o, none⟩) (World.block_lt_of_cell? _ _ d0)).trans d0; have g3 := (hb.cell (p := ⟨b, o + 3, none⟩) (World.block_lt_of_cell? _ _ d3)).trans d3; have gF := (hb.frozen (p := ⟨b, o, none⟩) (World.block_lt_of_cell? _ _ d0)).trans dF)
  go_loopw [2, 19] (fun v2 v19 W => ∃ j : Nat, j ≤ t.kids.length ∧ v19 = .int .i64 j ∧ InvState w W t ⟨A, c, F⟩ b o (mixAt invB t.kids j) hs) (fun _ v19 _ => t.kids.length - (intOf v19).toNat)
  case atStart => exact ⟨0, Nat.zero_le _, rfl, by rw [mixAt_zero]; exact HP.out.start hb⟩
  case round =>
    obtain ⟨j, hj, rfl, S⟩ := hrel
    have s0 := S.c0 HP.out
    have s3 := S.c3 HP.out
    dsimp only at s3
    by_cases hlt : j < t.kids.length
    · have hlm : j < (mixAt invB t.kids j).length := by rw [mixAt_length]; exact hlt
      obtain ⟨g, h2, hA, hnF, hfr, e0, e1, e2, e3, e4⟩ := S.at_ j hlm t.kids[j] (mixAt_at _ _ _ hlt hlm)
      obtain rfl : A = some ⟨g, 0, none⟩ := hA
      have S2 := Hd.mk S
      have HLM := Hd.mk hlm
      clear S hlm
      cases hkj : (t.kids[j].kind == 57)
      · go_wp2_with fail
        go_roundw
        case rel =>
          refine ⟨j + 1, hlt, by go_num, ?_⟩
          rw [← mixAt_skip invB t.kids j hlt (by simp [invB, hkj])]
          exact S2.out
        case measure => simp [intOf]; omega
      · have HC := Hd.mk (IH.out t.kids[j] (List.getElem_mem _) hkj hs[j] g (j * 4) wr e4 hnF hfr e0 e1 e2 e3)
        go_wp2_with (go_at_call 60; refine (HC.out).mono ?_; rintro e w2 ⟨rfl, hT, hO⟩)
        go_roundw
        case rel =>
          refine ⟨j + 1, hlt, by go_num, ?_⟩
          have e5 := mixAt_at invB t.kids j hlt HLM.out
          have hn := S2.out.next HP.out.nF rfl j HLM.out h2 (by rw [e5]; exact hT) (by rw [e5]; exact hO)
          rw [e5] at hn
          rw [← mixAt_set invB t.kids j hlt]
          have e6 : invB t.kids[j] = t.kids[j].inv := by simp [invB, hkj]
          rw [e6]; exact hn
        case measure => simp [intOf]; omega
    · have : j = t.kids.length := by omega
      subst this
      rw [mixAt_full] at S
      obtain ⟨g, k0, hA, _, _, hfr, e0, e1, e2, e3, e4⟩ := S.parts.at_ 0 (by simp [HN.out])
      obtain rfl : A = some ⟨g, 0, none⟩ := hA
      obtain ⟨g', k1, hA', _, _, _, f0, f1, f2, f3, f4⟩ := S.parts.at_ 2 (by simp [HN.out])
      obtain rfl : g' = g := by injection hA' with q; injection q with q; exact q.symm
      simp only [Nat.zero_mul, Nat.zero_add, Nat.reduceMul, Nat.reduceAdd] at e0 e1 e2 e3 f0 f1 f2 f3
      have r0 := hfr 0
      have r1 := hfr 1
      have r2 := hfr 2
      have r3 := hfr 3
      have r12 := hfr 8
      have r13 := hfr 9
      have r14 := hfr 10
      have r15 := hfr 11
      have S2 := Hd.mk S
      have hn := HN.out
      clear S e4 f4 hA' hfr
      obtain ⟨u0, hu0⟩ : ∃ u, (t.kids.map invB)[0]'(by simp [HN.out]) = u := ⟨_, rfl⟩
      obtain ⟨u3, hu3⟩ : ∃ u, (t.kids.map invB)[2]'(by simp [HN.out]) = u := ⟨_, rfl⟩
      obtain ⟨q0, hq0⟩ : ∃ q, hs[0] = q := ⟨_, rfl⟩
      obtain ⟨q3, hq3⟩ : ∃ q, hs[2] = q := ⟨_, rfl⟩
      rw [hu0] at e0 e1 e2 e3
      rw [hu3] at f0 f1 f2 f3
      rw [hq0] at e3
      rw [hq3] at f3
      have HU0 := Hd.mk hu0
      have HU3 := Hd.mk hu3
      have HQ0 := Hd.mk hq0
      have HQ3 := Hd.mk hq3
      clear hu0 hu3 hq0 hq3 HV IH d0 d3 dF g0 g3 gF hlt
      have hk := HK.out
      all_goals
        go_wp2_with fail
        go_region
        go_wp2_with fail
        go_end0
        have hl3 : 2 < (t.kids.map invB).length := by simp [HN.out]
        have hl0 : 0 < (t.kids.map invB).length := by simp [HN.out]
        have Z := S2.out.swap rfl 0 2 hl0 hl3 k0 k1
        rw [HU0.out, HU3.out, HQ0.out, HQ3.out] at Z
        refine ⟨rfl, swapped hs 0 2 k0 k1, ?_⟩
        rw [swapEnds3 _ (by simp [HN.out]) hl0 hl3]
        exact Z.drew
end Go.Proofs.YtgjanglonccclaaDoor
