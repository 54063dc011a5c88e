/- Contract of inverter.invert: the walk. -/
import Derived.Test.YtgjanglonccclaaDoorInv3
import Derived.BigRegion
import Derived.StillTailTactics
namespace Go.Proofs.YtgjanglonccclaaDoor
open Go.RowKit
set_option linter.unusedVariables false
set_option linter.unusedSimpArgs false

set_option maxHeartbeats 4000000 in
set_option maxRecDepth 100000 in
theorem invert_block (t : Node) (ih : ∀ k ∈ t.kids, InvRuns k) (hs57 : ∀ k ∈ t.kids, (k.kind == 57) = false) (hk : (invKind t.kind == 57) = true)
    (A : Option Addr) (c : Nat) (F : Nat → Prop) (b o : Nat) (w : World) (hs : List Hdr) (hp : InvPre w t ⟨A, c, F⟩ b o hs) (hl : (t.kids.length : Int) ≤ 2513169434916) :
    Calls Tryd.prog 60 #[.pointer (some ⟨b, o, none⟩)] w fun e w' => e = .returned (.tuple #[]) ∧ ∃ hs', InvState w w' t ⟨A, c, F⟩ b o (t.kids.map Node.inv).reverse hs' := by
  have H57 := Hd.mk hs57
  have HK := Hd.mk hk
  clear hk hs57
  have HV := Hd.mk (inverse_any t.kind w)
  have HP := Hd.mk hp
  have IH := Hd.mk ih
  have d0 := hp.c0
  have d3 := hp.c3
  have dF := hp.fr
  dsimp only at d3
  clear hp ih
  go_enter Tryd.func60, Tryd.ntmps60
  go_wp2_with (go_at_call 84; refine (HV.out).mono ?_; rintro e w1 ⟨rfl, hb⟩; have g0 := (hb.cell (p := ⟨b, o, none⟩) (World.block_lt_of_cell? _ _ d0)).trans d0; have g3 := (hb.cell (p := ⟨b, o + 3, none⟩) (World.block_lt_of_cell? _ _ d3)).trans d3; have gF := (hb.frozen (p := ⟨b, o, none⟩) (World.block_lt_of_cell? _ _ d0)).trans dF)
  go_loopw [2, 19] (fun v2 v19 W => ∃ j : Nat, j ≤ t.kids.length ∧ v19 = .int .i64 j ∧ InvState w W t ⟨A, c, F⟩ b o t.kids hs) (fun _ v19 _ => t.kids.length - (intOf v19).toNat)
  case atStart => exact ⟨0, Nat.zero_le _, rfl, HP.out.start hb⟩
  case round =>
    obtain ⟨j, hj, rfl, S⟩ := hrel
    have s0 := S.c0 HP.out
    have s3 := S.c3 HP.out
    dsimp only at s3
    by_cases hlt : j < t.kids.length
    · obtain ⟨g, h2, hA, hnF, hfr, e0, e1, e2, e3, e4⟩ := S.at_ j hlt _ rfl
      obtain rfl : A = some ⟨g, 0, none⟩ := hA
      have hkj := H57.out t.kids[j] (List.getElem_mem _)
      go_wp2_with fail
      go_roundw
      case rel => exact ⟨j + 1, hlt, by go_num, S⟩
      case measure => simp [intOf]; omega
    · have : j = t.kids.length := by omega
      subst this
      have S2 := Hd.mk S
      have hk := HK.out
      have k2 : (invKind t.kind == 52) = false := by simp at hk ⊢; omega
      have k3 : (invKind t.kind == 53) = false := by simp at hk ⊢; omega
      have k4 : (invKind t.kind == 54) = false := by simp at hk ⊢; omega
      clear S HV d0 d3 dF g0 g3 gF hlt hb
      go_wp2_with fail
      clear k2 k3 k4 hk s0 s3
      go_loopw [4, 84] (fun v4 v84 W => ∃ j : Nat, j ≤ t.kids.length ∧ v84 = .int .i64 j ∧ InvState w W t ⟨A, c, F⟩ b o (mixAt Node.inv t.kids j) hs) (fun _ v84 _ => t.kids.length - (intOf v84).toNat)
      case atStart => exact ⟨0, Nat.zero_le _, rfl, by rw [mixAt_zero]; exact S2.out⟩
      case round =>
        obtain ⟨j, hj, rfl, S⟩ := hrel
        have s3 := S.c3 HP.out
        dsimp only at s3
        by_cases hlt : j < t.kids.length
        · have hlm : j < (mixAt Node.inv t.kids j).length := by rw [mixAt_length]; exact hlt
          obtain ⟨g, h2, hA, hnF, hfr, e0, e1, e2, e3, e4⟩ := S.at_ j hlm t.kids[j] (mixAt_at _ _ _ hlt hlm)
          obtain rfl : A = some ⟨g, 0, none⟩ := hA
          have S3 := Hd.mk S
          have HLM := Hd.mk hlm
          clear S hlm
          have HC := Hd.mk (IH.out t.kids[j] (List.getElem_mem _) hs[j] g (j * 4) _ e4 hnF hfr e0 e1 e2 e3)
          go_wp2_with (go_at_call 60; refine (HC.out).mono ?_; rintro e w2 ⟨rfl, hT, hO⟩)
          go_roundw
          case rel =>
            refine ⟨j + 1, hlt, by go_num, ?_⟩
            have e5 := mixAt_at Node.inv t.kids j hlt HLM.out
            have hn := S3.out.next HP.out.nF rfl j HLM.out h2 (by rw [e5]; exact hT) (by rw [e5]; exact hO)
            rw [e5] at hn
            rw [← mixAt_set Node.inv t.kids j hlt]
            exact hn
          case measure => simp [intOf]; omega
        · have : j = t.kids.length := by omega
          subst this
          rw [mixAt_full] at S
          have S3 := Hd.mk S
          clear S
          have hlh := S3.out.parts.kids.len
          go_wp2_with fail
          go_loopw [5] (fun v5 W => ∃ (i : Nat) (cur : List Node) (hcur : List Hdr), i ≤ t.kids.length ∧ v5 = .int .i64 i ∧ Hd (RevTo (t.kids.map Node.inv) cur i ∧ RevTo hs hcur i ∧ InvState w W t ⟨A, c, F⟩ b o cur hcur)) (fun v5 _ => t.kids.length - (intOf v5).toNat)
          case atStart => exact ⟨0, _, _, Nat.zero_le _, rfl, RevTo.zero _, RevTo.zero _, S3.out⟩
          case round =>
            obtain ⟨i, cur, hcur, hi, rfl, HR⟩ := hrel
            have s3 := HR.out.2.2.c3 HP.out
            dsimp only at s3
            have hlc : cur.length = t.kids.length := HR.out.2.2.len
            have hlq : hcur.length = t.kids.length := by rw [← HR.out.2.2.parts.kids.len]; exact hlc
            by_cases hlt2 : i < t.kids.length - 1 - i
            · obtain ⟨m, hm⟩ : ∃ m : Nat, m = t.kids.length - 1 - i := ⟨_, rfl⟩
              have hic : i < cur.length := by omega
              have hmc : m < cur.length := by omega
              have hiq : i < hcur.length := by omega
              have hmq : m < hcur.length := by omega
              obtain ⟨u0, hu0⟩ : ∃ u, cur[i] = u := ⟨_, rfl⟩
              obtain ⟨u3, hu3⟩ : ∃ u, cur[m] = u := ⟨_, rfl⟩
              obtain ⟨q0, hq0⟩ : ∃ q, hcur[i] = q := ⟨_, rfl⟩
              obtain ⟨q3, hq3⟩ : ∃ q, hcur[m] = q := ⟨_, rfl⟩
              obtain ⟨g, k0, hA, _, _, hfr, e0, e1, e2, e3, e4⟩ := HR.out.2.2.parts.at_ i hic
              obtain rfl : A = some ⟨g, 0, none⟩ := hA
              obtain ⟨g', k1, hA', _, _, _, f0, f1, f2, f3, f4⟩ := HR.out.2.2.parts.at_ m hmc
              obtain rfl : g' = g := by injection hA' with q; injection q with q; exact q.symm
              rw [hu0] at e0 e1 e2 e3
              rw [hu3] at f0 f1 f2 f3
              rw [hq0] at e3
              rw [hq3] at f3
              have r0 := hfr (i * 4)
              have r1 := hfr (i * 4 + 1)
              have r2 := hfr (i * 4 + 2)
              have r3 := hfr (i * 4 + 3)
              have r12 := hfr (m * 4)
              have r13 := hfr (m * 4 + 1)
              have r14 := hfr (m * 4 + 2)
              have r15 := hfr (m * 4 + 3)
              have hme : ((t.kids.length : Int) - 1 - (i : Int)) = (m : Int) := by omega
              have hmi : i < m := by omega
              have hml : m < t.kids.length := by omega
              have HM := Hd.mk hm
              have HU0 := Hd.mk hu0
              have HU3 := Hd.mk hu3
              have HQ0 := Hd.mk hq0
              have HQ3 := Hd.mk hq3
              have HLC := Hd.mk hlc
              have HLQ := Hd.mk hlq
              have hlt3 : i < t.kids.length := by omega
              clear hu0 hu3 hq0 hq3 e4 f4 hA' hfr hlc hlq hm hlh
              go_wp2_with fail
              go_region
              go_wp2_with fail
              go_roundw
              case rel =>
                have Z := HR.out.2.2.swap rfl i m hic hmc hiq hmq
                rw [HU0.out, HU3.out, HQ0.out, HQ3.out] at Z
                have R1 := HR.out.1
                have R2 := HR.out.2.1
                have hm := HM.out
                subst hm
                have hl1 : (t.kids.map Node.inv).length = t.kids.length := by simp
                have hl2 : hs.length = t.kids.length := by rw [← R2.1]; exact HLQ.out
                refine ⟨i + 1, _, _, hlt3, by go_num, ?_, ?_, Z.drew⟩
                · have e := R1.step (by rw [hl1]; exact hmi) hic (by rw [hl1]; exact hmc)
                  simp only [hl1] at e
                  exact e
                · have e := R2.step (by rw [hl2]; exact hmi) hiq (by rw [hl2]; exact hmq)
                  simp only [hl2] at e
                  exact e
              case measure => simp [intOf]; omega
            · have hge : ¬ ((i : Int) < (t.kids.length : Int) - 1 - (i : Int)) := by omega
              go_wp2_with fail
              go_end0
              have e := HR.out.1.done (by simpa using hlt2)
              exact ⟨rfl, hcur, by rw [← e]; exact HR.out.2.2⟩
end Go.Proofs.YtgjanglonccclaaDoor
