/- Contract of the reference's Statement (simplify). -/
import Derived.Test.YtgjanglonccclaaDoorBC
namespace Go.Proofs.YtgjanglonccclaaDoor
open Go.RowKit
set_option linter.unusedVariables false
set_option linter.unusedSimpArgs false

def RefBlkRuns (t : Node) : Prop := ∀ (A : Option Addr) (c : Nat) (w : World) (N0 : Nat), N0 ≤ w.heap.size → t.In w (fun b => b < N0) A c → Calls Tryd.prog 20 #[.agg #[.int .u8 t.kind, .int .i64 t.num, .string t.name, .slice A t.kids.length c]] w (RefInvRet w N0 t.simp)
def RefStmRuns (t : Node) : Prop := ∀ (A : Option Addr) (c : Nat) (w : World) (N0 : Nat), N0 ≤ w.heap.size → t.In w (fun b => b < N0) A c → Calls Tryd.prog 43 #[.agg #[.int .u8 t.kind, .int .i64 t.num, .string t.name, .slice A t.kids.length c]] w (RefInvRet w N0 t.eachS)

theorem Boxes.set {w W : World} {t : Node} {A : Option Addr} {c : Nat} (B : Boxes w W t A c) {P : Nat} (hP : w.heap.size + 2 ≤ P) (i : Nat) (v : Value) : Boxes w (W.setCell ⟨P, i, none⟩ v) t A c :=
  ⟨Below.setCell (p := ⟨P, i, none⟩) B.below (by show w.heap.size ≤ P; omega) _, by simp only [World.setCell, Array.size_modify]; exact B.size, by rw [set_other (by omega)]; exact B.box, by rw [set_other (by omega)]; exact B.res⟩
theorem RB.start {w : World} {N0 : Nat} {t : Node} {A : Option Addr} {c : Nat} :
    RB w (((w.alloc (.cells #[.int .u8 t.kind, .int .i64 t.num, .string t.name, .slice A t.kids.length c] 24)).alloc (.cells #[.int .u8 0, .int .i64 0, .string ⟨#[]⟩, .slice none 0 0] 24)).alloc (.cells #[.int .u8 t.kind, .int .i64 t.num, .string t.name, .slice none 0 0] 24)) N0 t A c (w.heap.size + 1 + 1) none 0 [] [] := by
  refine ⟨(Boxes.start w t A c).next (ext_alloc (Below.refl _ _) _), by omega, ?_, InParts.nil, fun g hg => by simp [Value.ownBlock] at hg⟩
  have := new_block ((w.alloc (.cells #[.int .u8 t.kind, .int .i64 t.num, .string t.name, .slice A t.kids.length c] 24)).alloc (.cells #[.int .u8 0, .int .i64 0, .string ⟨#[]⟩, .slice none 0 0] 24)) (.cells #[.int .u8 t.kind, .int .i64 t.num, .string t.name, .slice none 0 0] 24)
  simpa using this
/-- The result is written and handed back. -/
theorem RB.fin {w W : World} {N0 : Nat} {t u : Node} {A : Option Addr} {c P : Nat} {A3 : Option Addr} {c3 : Nat} {hs : List Hdr} (R : RB w W N0 t A c P A3 c3 u.kids hs) (hf : u.Fits) (hl : u.kids.length * 56 ≤ 140737488355328) (v0 v1 v2 v3 : Value) :
    Below w.heap.size w ((((W.setCell ⟨w.heap.size + 1, 0, none⟩ v0).setCell ⟨w.heap.size + 1, 1, none⟩ v1).setCell ⟨w.heap.size + 1, 2, none⟩ v2).setCell ⟨w.heap.size + 1, 3, none⟩ v3) ∧
    u.In ((((W.setCell ⟨w.heap.size + 1, 0, none⟩ v0).setCell ⟨w.heap.size + 1, 1, none⟩ v1).setCell ⟨w.heap.size + 1, 2, none⟩ v2).setCell ⟨w.heap.size + 1, 3, none⟩ v3) (fun b => b < N0 ∨ w.heap.size ≤ b) A3 c3 :=
  RI_fin R.boxes (R.parts.reads hf hl) _ _ _ _
theorem RB.next {w W W2 : World} {N0 : Nat} {t : Node} {A : Option Addr} {c P : Nat} {A3 : Option Addr} {c3 : Nat} {acc : List Node} {hs : List Hdr} (R : RB w W N0 t A c P A3 c3 acc hs) (h : Below W.heap.size W W2) : RB w W2 N0 t A c P A3 c3 acc hs :=
  ⟨R.boxes.next h, R.lo, by rw [h.block _ (stands_lt R.out)]; exact R.out, R.parts.below h, R.lo2⟩

set_option maxHeartbeats 4000000 in
set_option maxRecDepth 100000 in
theorem refStm_step (t : Node) (ht : t.isStmt = true) (ih : ∀ k ∈ t.kids, k.isBlock = true → RefBlkRuns k) : RefStmRuns t := by
  intro A c w N0 hN h
  have HF := Hd.mk (And.intro h.fits h.cap)
  have HH := Hd.mk h
  have hl := h.lenZ
  have HKS := Hd.mk (isStmt_kids ht)
  have IH := Hd.mk ih
  have HE := Hd.mk (Node.eachS_eq t)
  obtain ⟨i0, hi, hz0, hz1, hz2⟩ := info_parts infoNode
  clear h ih ht
  go_enter Tryd.func43, Tryd.ntmps43
  go_wp2_with fail
  go_loopw [4, 5] (fun v4 v5 W => ∃ (j : Nat) (A3 : Option Addr) (c3 : Nat) (acc : List Node) (hs : List Hdr), v4 = .int .i64 j ∧ j ≤ t.kids.length ∧ Hd (acc = (t.kids.take j).map simpB) ∧ RB w W N0 t A c (w.heap.size + 1 + 1) A3 c3 acc hs) (fun v4 _ _ => t.kids.length - (intOf v4).toNat)
  case atStart =>
    exact ⟨0, none, 0, [], [], rfl, Nat.zero_le _, ⟨rfl⟩, RB.start⟩
  case round =>
    obtain ⟨j, A3, c3, acc, hs, rfl, hj, HA, R⟩ := hrel
    obtain ⟨⟨x0, x1, x2, x3⟩, ⟨y0, y1, y2, y3⟩, ⟨f0, f1, f2, f3⟩, hz⟩ := R.boxes.facts
    obtain ⟨p0, p1, p2, p3⟩ := four_cells R.out
    have hPr := stands_lt R.out
    have g3 := blk_free R.out 3
    have HR := Hd.mk R
    have hal : acc.length = j := by rw [HA.out, List.length_map, List.length_take]; omega
    by_cases hlt : j < t.kids.length
    · obtain ⟨b, o, A1, c1, rfl, e0, e1, e2, e3, h4⟩ := (HH.out.below R.boxes.below).at_ j hlt
      have H4 := Hd.mk h4
      have HM := Hd.mk (show t.kids.take (j + 1) = t.kids.take j ++ [t.kids[j]] from List.take_succ_eq_append_getElem hlt)
      have HBK := Hd.mk (HKS.out t.kids[j] (List.getElem_mem _))
      have HIB := Hd.mk (fun (h : (t.kids[j].kind == 57) = true) => IH.out t.kids[j] (List.getElem_mem _) (HBK.out h))
      have hNr : N0 ≤ wr.heap.size := by have := R.boxes.size; omega
      have hbnd : acc.length + 1 ≤ t.kids.length := by omega
      have hal2 : acc.length ≤ 2513169434915 := by omega
      have HROW := Hd.mk (fun W (hb : Below wr.heap.size wr W) => (R.parts.below hb).row)
      have HAL := Hd.mk hal
      clear R h4 hal
      cases hk : (t.kids[j].kind == 57)
      · have hbw : Below wr.heap.size wr (wr.alloc (.cells #[.int .u8 t.kids[j].kind, .int .i64 t.kids[j].num, .string t.kids[j].name, .slice A1 t.kids[j].kids.length c1] 24)) := ext_alloc (Below.refl _ _) _
        have HBW := Hd.mk hbw
        have HU := Hd.mk (show simpB t.kids[j] = t.kids[j] by simp [simpB, hk])
        clear hbw
        go_wp2_with (at_builtin; refine wpList_append_own_at _ rfl _ _ 22 rfl 0 24 i0 _ 4 56 Tryd.underlying22 hi hz0 hz1 hz2 rfl (by omega) (.slice A3 acc.length c3) acc.length (valsAll acc hs) rfl (HROW.out _ (ext_alloc (ext_alloc (Below.refl _ _) _) _)) ⟨wr.heap.size + 1, 0, none⟩ 1 1 [.int .u8 t.kids[j].kind, .int .i64 t.kids[j].num, .string t.kids[j].name, .slice A1 t.kids[j].kids.length c1] rfl rfl (World.news_of_block (blk_top (by simp [World.setCell]))) (by simp [Value.oneCell']) (by simp [maxLen]; omega) (by omega) (by omega) ?_; intro v' w2 hrow hgr _ hat; obtain ⟨g, cap, rfl, _, _⟩ := hrow.form (by omega); have hpb := HR.out.after HBW.out hgr; obtain ⟨s0, s1, s2, s3⟩ := four_cells hpb; have t3 := blk_free hpb 3; have HPB := Hd.mk hpb; clear hpb)
        go_roundw
        case rel =>
          refine ⟨j + 1, some ⟨g, 0, none⟩, cap, acc ++ [t.kids[j]], _, by go_num, hlt, ⟨?_⟩, HR.out.push hN HBW.out (Node.In.move (fun _ _ _ => rfl) (fun b hb _ => .inl hb) _ (H4.out.below HBW.out)) hrow hgr ?_⟩
          · rw [HM.out, List.map_append, HA.out, List.map_cons, HU.out]; rfl
          · rcases hat with e | e
            · exact .inl e.symm
            · exact .inr (by have := Option.some.inj e; simpa using this)
        case measure => simp [intOf]; omega
      · have HU := Hd.mk (show simpB t.kids[j] = t.kids[j].simp by simp [simpB, hk])
        have HIk := Hd.mk (HIB.out hk)
        have hkb := ext_alloc (Below.refl wr.heap.size wr) (.cells #[.int .u8 t.kids[j].kind, .int .i64 t.kids[j].num, .string t.kids[j].name, .slice A1 t.kids[j].kids.length c1] 24)
        have H4k := Hd.mk (H4.out.below hkb)
        have HKB := Hd.mk hkb
        obtain ⟨u, hu⟩ : ∃ u, t.kids[j].simp = u := ⟨_, rfl⟩
        have hik := HIk.out
        unfold RefBlkRuns at hik
        rw [hu] at hik HU
        have HIk2 := Hd.mk hik
        have hPne : w.heap.size + 1 + 1 ≠ wr.heap.size := by omega
        clear hkb hik HIk hu
        go_wp2_with fail
        refine (HIk2.out _ c1 _ N0 (by simp; omega) H4k.out).mono ?_
        rintro e w1 ⟨A4, c4, rfl, hb, hi4⟩
        have hsz1 : wr.heap.size + 1 ≤ w1.heap.size := by have := hb.size; simpa using this
        have hkv := stands (new_block wr (.cells #[.int .u8 t.kids[j].kind, .int .i64 t.kids[j].num, .string t.kids[j].name, .slice A1 t.kids[j].kids.length c1] 24)) hb
        have HR1 := Hd.mk (HR.out.next (ext_trans HKB.out hb))
        have HB1 := Hd.mk (ext_trans HKB.out hb)
        obtain ⟨q0, q1, q2, q3⟩ := four_cells HR1.out.out
        have hPr1 := stands_lt HR1.out.out
        have r3 := blk_free HR1.out.out 3
        obtain ⟨k0, k1, k2, k3⟩ := four_cells hkv
        have l0 := blk_free hkv 0
        have l1 := blk_free hkv 1
        have l2 := blk_free hkv 2
        have l3 := blk_free hkv 3
        have HI4 := Hd.mk hi4
        have HBW := Hd.mk (show Below wr.heap.size wr ((((w1.setCell ⟨wr.heap.size, 0, none⟩ (.int .u8 u.kind)).setCell ⟨wr.heap.size, 1, none⟩ (.int .i64 u.num)).setCell ⟨wr.heap.size, 2, none⟩ (.string u.name)).setCell ⟨wr.heap.size, 3, none⟩ (.slice A4 u.kids.length c4)) from res_below HB1.out (Nat.le_refl _) _ _ _ _)
        clear hb hi4 hkv
        go_wp2_with (at_builtin; refine wpList_append_own_at _ rfl _ _ 22 rfl 0 24 i0 _ 4 56 Tryd.underlying22 hi hz0 hz1 hz2 rfl (by omega) (.slice A3 acc.length c3) acc.length (valsAll acc hs) rfl (HROW.out _ (ext_alloc HBW.out _)) ⟨w1.heap.size, 0, none⟩ 1 1 [.int .u8 u.kind, .int .i64 u.num, .string u.name, .slice A4 u.kids.length c4] rfl rfl (World.news_of_block (blk_top (by simp [World.setCell]))) (by simp [Value.oneCell']) (by simp [maxLen]; omega) (by omega) (by omega) ?_; intro v' w2 hrow hgr _ hat; obtain ⟨g, cap, rfl, _, _⟩ := hrow.form (by omega); have hpb := HR.out.after HBW.out hgr; obtain ⟨s0, s1, s2, s3⟩ := four_cells hpb; have t3 := blk_free hpb 3; have HPB := Hd.mk hpb; clear hpb)
        go_roundw
        case rel =>
          refine ⟨j + 1, some ⟨g, 0, none⟩, cap, acc ++ [u], _, by go_num, hlt, ⟨?_⟩, HR.out.push hN HBW.out (Node.In.move (fun b hb _ => res_other ?_) (fun b hb _ => ?_) _ HI4.out) hrow hgr ?_⟩
          · rw [HM.out, List.map_append, HA.out, List.map_cons, HU.out]; rfl
          · have h1 : b < N0 ∨ (wr.alloc (.cells #[.int .u8 t.kids[j].kind, .int .i64 t.kids[j].num, .string t.kids[j].name, .slice A1 t.kids[j].kids.length c1] 24)).heap.size ≤ b := hb
            rw [World.size_alloc] at h1
            omega
          · have h1 : b < N0 ∨ (wr.alloc (.cells #[.int .u8 t.kids[j].kind, .int .i64 t.kids[j].num, .string t.kids[j].name, .slice A1 t.kids[j].kids.length c1] 24)).heap.size ≤ b := hb
            rw [World.size_alloc] at h1
            show b < N0 ∨ wr.heap.size ≤ b
            omega
          · rcases hat with e | e
            · exact .inl e.symm
            · exact .inr (by have := Option.some.inj e; simpa using this)
        case measure => simp [intOf]; omega
    · have : j = t.kids.length := by omega
      subst this
      have HU := Hd.mk (show t.eachS = ⟨t.kind, t.num, t.name, acc⟩ by rw [HE.out, HA.out, List.take_length])
      have HAL := Hd.mk hal
      clear R hal
      go_wp2_with fail
      have hfin := HR.out.fin (u := ⟨t.kind, t.num, t.name, acc⟩) ⟨HF.out.1.kind0, HF.out.1.kind1, HF.out.1.num0, HF.out.1.num1, HF.out.1.name⟩ (by show acc.length * 56 ≤ _; rw [HAL.out]; exact HF.out.2) (.int .u8 t.kind) (.int .i64 t.num) (.string t.name) (.slice A3 acc.length c3)
      refine bodyPost_ret (v := .agg #[.int .u8 t.kind, .int .i64 t.num, .string t.name, .slice A3 acc.length c3]) ?_ rfl ⟨A3, c3, ?_, hfin.1, ?_⟩
      · have hcc := res_cells (u0 := .int .u8 t.kind) (u1 := .int .i64 t.num) (u2 := .string t.name) (u3 := .slice A3 acc.length c3) HR.out.boxes.res
        simp [results, Tryd.results43, go_sem, hcc]
      · rw [HU.out]
      · rw [HU.out]; exact hfin.2
end Go.Proofs.YtgjanglonccclaaDoor
