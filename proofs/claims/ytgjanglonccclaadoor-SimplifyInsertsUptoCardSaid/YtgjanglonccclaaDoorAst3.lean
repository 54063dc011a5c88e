/- Contracts of ast.IsPlace and ast.shape. -/
import Derived.Test.YtgjanglonccclaaDoorAst2
namespace Go.Proofs.YtgjanglonccclaaDoor
open Go.RowKit
set_option linter.unusedVariables false
set_option linter.unusedSimpArgs false

theorem isPlace_any (t : Node) (A : Option Addr) (c : Nat) (w : World) (ok : Nat → Prop) (hw : Good w) (h : t.In w ok A c) :
    Calls Tryd.prog 34 #[.agg #[.int .u8 t.kind, .int .i64 t.num, .string t.name, .slice A t.kids.length c]] w fun e w' => e = .returned (.bool t.isPlace) ∧ Below w.heap.size w w' := by
  have HE := Hd.mk (fun W hb => isExpr_any t A c W ok (hw.below (w' := W) hb) (h.below hb))
  have HX := Hd.mk (show t.isPlace = ((t.kind == 2 || t.kind == 3) && t.isExpr) from rfl)
  clear hw h
  cases k2 : (t.kind == 2)
  · cases k3 : (t.kind == 3)
    · go_enter Tryd.func34, Tryd.ntmps34
      go_wp2_with fail
      go_ret
      exact ⟨ret_bool (by rw [HX.out, k2, k3]; rfl), ext_alloc (Below.refl _ _) _⟩
    · go_enter Tryd.func34, Tryd.ntmps34
      go_wp2_with (go_at_call 35; refine (HE.out _ (ext_alloc (Below.refl _ _) _)).mono ?_; rintro e w1 ⟨rfl, hb⟩)
      go_ret
      exact ⟨ret_bool (by rw [HX.out, k2, k3]; simp), ext_trans (ext_alloc (Below.refl _ _) _) hb⟩
  · go_enter Tryd.func34, Tryd.ntmps34
    go_wp2_with (go_at_call 35; refine (HE.out _ (ext_alloc (Below.refl _ _) _)).mono ?_; rintro e w1 ⟨rfl, hb⟩)
    go_ret
    exact ⟨ret_bool (by rw [HX.out, k2]; simp), ext_trans (ext_alloc (Below.refl _ _) _) hb⟩

theorem goes_IsPlace : Goes 34 := goes_of Tryd.func34 (by kernel_rfl) rfl
theorem goes_IsExpr : Goes 35 := goes_of Tryd.func35 (by kernel_rfl) rfl
theorem goes_IsBlock : Goes 15 := goes_of Tryd.func15 (by kernel_rfl) rfl

theorem shapeB_len {ks : List Node} {ps : List (Node → Bool)} (h : ¬ ks.length = ps.length) : shapeB ks ps = false := by simp [shapeB, h]
theorem shapeB_hit {ks : List Node} {ps : List (Node → Bool)} {j : Nat} (h1 : j < ks.length) (h2 : j < ps.length) (h : ps[j] ks[j] = false) : shapeB ks ps = false := by
  unfold shapeB
  rw [Bool.and_eq_false_iff]
  right
  rw [List.all_eq_false]
  exact ⟨(ks[j], ps[j]), by rw [List.mem_iff_getElem]; exact ⟨j, by simp; omega, by simp⟩, by simp [h]⟩
theorem shapeB_all {ks : List Node} {ps : List (Node → Bool)} (hl : ks.length = ps.length) (h : ∀ j (h1 : j < ks.length) (h2 : j < ps.length), ps[j] ks[j] = true) : shapeB ks ps = true := by
  unfold shapeB
  rw [hl]
  simp only [beq_self_eq_true, Bool.true_and]
  rw [List.all_eq_true]
  intro x hx
  obtain ⟨j, hj, rfl⟩ := List.getElem_of_mem hx
  have hj2 := hj
  rw [List.length_zip] at hj2
  simp only [List.getElem_zip]
  exact h j (by omega) (by omega)

theorem shape_any (t : Node) (A : Option Addr) (c : Nat) (w : World) (ok : Nat → Prop) (h : t.In w ok A c) (fs : List FuncId) (ps : List (Node → Bool)) (m : Nat) (hm : fs.length = m) (hp' : ps.length = m) (hm1 : m ≤ 100) (bt : Nat)
    (hc : ∀ j (hj : j < fs.length), w.cell? ⟨bt, j, none⟩ = some (.func (.func fs[j]) #[] #[])) (hbt : bt < w.heap.size) (hg : ∀ f ∈ fs, Goes f)
    (hp : ∀ j (h1 : j < fs.length) (h2 : j < ps.length), ∀ k ∈ t.kids, Tests fs[j] #[] ps[j] w ok k) :
    Calls Tryd.prog 33 #[.agg #[.int .u8 t.kind, .int .i64 t.num, .string t.name, .slice A t.kids.length c], .slice (some ⟨bt, 0, none⟩) m m] w fun e w' => e = .returned (.bool (shapeB t.kids ps)) ∧ Below w.heap.size w w' := by
  subst hm
  have H := Hd.mk h
  have HC := Hd.mk hc
  have HG := Hd.mk hg
  have HP := Hd.mk hp
  have HL := Hd.mk hp'
  have hl := h.lenZ
  have hm2 : (fs.length : Int) ≤ 100 := by omega
  clear h hc hg hp hp' hm1
  cases hlen : ((t.kids.length : Int) != (fs.length : Int))
  · have HE := Hd.mk (show t.kids.length = fs.length by simp at hlen; omega)
    go_enter Tryd.func33, Tryd.ntmps33
    go_wp2_with fail
    go_loopw [5, 6, 15] (fun v5 v6 v15 W => ∃ j : Nat, j ≤ fs.length ∧ v15 = .int .i64 j ∧ Hd (∀ i (h1 : i < t.kids.length) (h2 : i < ps.length), i < j → ps[i] t.kids[i] = true) ∧ Below (w.alloc (.cells #[.int .u8 t.kind, .int .i64 t.num, .string t.name, .slice A t.kids.length c] 24)).heap.size (w.alloc (.cells #[.int .u8 t.kind, .int .i64 t.num, .string t.name, .slice A t.kids.length c] 24)) W) (fun _ _ v15 _ => fs.length - (intOf v15).toNat)
    case atStart => exact ⟨0, Nat.zero_le _, rfl, ⟨fun i _ _ h => by omega⟩, Below.refl _ _⟩
    case round =>
      obtain ⟨j, hj, rfl, HS, HB⟩ := hrel
      by_cases hlt : j < fs.length
      · have hlt1 : j < t.kids.length := by have := HE.out; omega
        have hlt2 : j < ps.length := by have := HL.out; omega
        have HB' := ext_trans (ext_alloc (Below.refl w.heap.size w) _) HB
        obtain ⟨b, o, A1, c1, rfl, e0, e1, e2, e3, h4⟩ := (H.out.below HB').at_ j hlt1
        obtain ⟨x0, x1, x2, x3⟩ := box_cells HB
        have hcell : wr.cell? ⟨bt, j, none⟩ = some (.func (.func fs[j]) #[] #[]) := (HB'.cell (p := ⟨bt, j, none⟩) hbt).trans (HC.out j hlt)
        have hgo : ∀ (args : Array Value) (w : World), (callFunc fs[j] args).run Tryd.prog w = .ok (.enter fs[j] args) w := HG.out _ (List.getElem_mem _)
        have HT := Hd.mk (HP.out j hlt hlt2 t.kids[j] (List.getElem_mem _) wr A1 c1 _ HB' h4 rfl)
        cases hpj : ps[j] t.kids[j]
        · rw [hpj] at HT
          have HF := Hd.mk (shapeB_hit hlt1 hlt2 hpj).symm
          clear hpj HB' h4
          go_wp2_with (refine (HT.out).mono ?_; rintro e w1 ⟨rfl, hb⟩)
          go_ret
          exact ⟨ret_bool HF.out, ext_trans (ext_trans (ext_alloc (Below.refl _ _) _) HB) hb⟩
        · rw [hpj] at HT
          have HF := Hd.mk hpj
          clear hpj HB' h4
          go_wp2_with (refine (HT.out).mono ?_; rintro e w1 ⟨rfl, hb⟩)
          go_roundw
          case rel =>
            refine ⟨j + 1, hlt, by go_num, ⟨fun i h1 h2 h3 => ?_⟩, ext_trans HB hb⟩
            rcases Nat.lt_or_ge i j with h | h
            · exact HS.out i h1 h2 h
            · obtain rfl : i = j := by omega
              exact HF.out
          case measure => simp [intOf]; omega
      · have : j = fs.length := by omega
        subst this
        go_wp2_with fail
        go_ret
        exact ⟨ret_bool (shapeB_all (by rw [HE.out, HL.out]) (fun i h1 h2 => HS.out i h1 h2 (by have := HE.out; omega))).symm, ext_trans (ext_alloc (Below.refl _ _) _) HB⟩
  · have HF := Hd.mk (shapeB_len (ks := t.kids) (ps := ps) (by rw [HL.out]; simp at hlen; omega)).symm
    go_enter Tryd.func33, Tryd.ntmps33
    go_wp2_with fail
    go_ret
    exact ⟨ret_bool HF.out, ext_alloc (Below.refl _ _) _⟩
end Go.Proofs.YtgjanglonccclaaDoor
