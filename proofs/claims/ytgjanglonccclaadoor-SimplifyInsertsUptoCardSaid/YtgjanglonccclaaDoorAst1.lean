/- Contracts of ast.bare, ast.Size, slices.IndexFunc and slices.ContainsFunc over nodes. -/
import Derived.Test.YtgjanglonccclaaDoorBase
namespace Go.Proofs.YtgjanglonccclaaDoor
open Go.RowKit
set_option linter.unusedVariables false
set_option linter.unusedSimpArgs false

theorem bare_any (t : Node) (A : Option Addr) (c : Nat) (w : World) :
    Calls Tryd.prog 31 #[.agg #[.int .u8 t.kind, .int .i64 t.num, .string t.name, .slice A t.kids.length c]] w fun e w' => e = .returned (.bool (t.num == 0)) ∧ Below w.heap.size w w' := by
  go_enter Tryd.func31, Tryd.ntmps31
  go_wp2
  go_ret
  exact ⟨rfl, ext_alloc (Below.refl _ _) _⟩

theorem size_any (t : Node) : ∀ (A : Option Addr) (c : Nat) (w : World) (ok : Nat → Prop) (h : t.In w ok A c),
    Calls Tryd.prog 11 #[.agg #[.int .u8 t.kind, .int .i64 t.num, .string t.name, .slice A t.kids.length c]] w fun e w' => e = .returned (.int .i64 t.sizeW) ∧ Below w.heap.size w w' := by
  induction t using Node.ind with
  | h t ih =>
  intro A c w ok h
  have H := Hd.mk h
  have IH := Hd.mk ih
  have hl := h.lenZ
  clear h ih
  go_enter Tryd.func11, Tryd.ntmps11
  go_wp2_with fail
  go_loopw [3,5,9] (fun v3 v5 v9 W => ∃ j : Nat, ∃ m : Int, j ≤ t.kids.length ∧ v9 = .int .i64 j ∧ v3 = .int .i64 m ∧ Hd (sizesW m (t.kids.drop j) = t.sizeW) ∧ Below w.heap.size w W) (fun _ _ v9 _ => t.kids.length - (intOf v9).toNat)
  case atStart => exact ⟨0, 1, Nat.zero_le _, rfl, rfl, ⟨by rw [Node.sizeW_eq]; rfl⟩, ext_alloc (Below.refl _ _) _⟩
  case round =>
    obtain ⟨j, m, hj, rfl, rfl, HS, HB⟩ := hrel
    by_cases hlt : j < t.kids.length
    · obtain ⟨b, o, A1, c1, rfl, e0, e1, e2, e3, h4⟩ := (H.out.below HB).at_ j hlt
      have IH1 := Hd.mk (IH.out t.kids[j] (List.getElem_mem _))
      go_wp2_with (go_at_call 11; refine (IH1.out A1 c1 _ ok (h4.below (ext_alloc (Below.refl _ _) _))).mono ?_; rintro e w' ⟨rfl, hb⟩)
      go_roundw
      case rel => exact ⟨j + 1, _, hlt, by go_num, rfl, ⟨by rw [← HS.out, sizesW_drop hlt]⟩, (ext_trans HB (ext_trans (ext_alloc (Below.refl _ _) _) hb))⟩
      case measure => simp [intOf]; omega
    · have : j = t.kids.length := by omega
      subst this
      go_wp2_with fail
      go_ret
      exact ⟨ret_int (by have := HS.out; rw [List.drop_length] at this; exact this), HB⟩

/-- A test over nodes, as a function value: wherever a node lies, it returns p of it and lets stand what was there. -/
def Tests (fn : FuncId) (cap : Array Value) (p : Node → Bool) (w : World) (ok : Nat → Prop) (t : Node) : Prop :=
  ∀ (W : World) (A : Option Addr) (c : Nat) (args : Array Value), Below w.heap.size w W → t.In W ok A c → args = #[.agg #[.int .u8 t.kind, .int .i64 t.num, .string t.name, .slice A t.kids.length c]] ++ cap →
    Calls Tryd.prog fn args W fun e W' => e = .returned (.bool (p t)) ∧ Below W.heap.size W W'

def idxW (p : Node → Bool) (l : List Node) : Int := if l.any p then (l.findIdx p : Int) else -1
theorem idxW_hit {p : Node → Bool} {l : List Node} {j : Nat} (hj : j < l.length) (h : ∀ k ∈ l.take j, p k = false) (hp : p l[j] = true) : (j : Int) = idxW p l := by
  have h1 : l.any p = true := List.any_eq_true.2 ⟨l[j], List.getElem_mem _, hp⟩
  have h2 : l.findIdx p = j := by
    rw [List.findIdx_eq hj]
    refine ⟨hp, fun i hi => ?_⟩
    exact h _ (List.mem_take_iff_getElem.2 ⟨i, by omega, rfl⟩)
  simp [idxW, h1, h2]
theorem idxW_miss {p : Node → Bool} {l : List Node} (h : ∀ k ∈ l, p k = false) : (-1 : Int) = idxW p l := by
  have h1 : l.any p = false := List.any_eq_false.2 (fun k hk => by simp [h k hk])
  simp [idxW, h1]
theorem idxW_any (p : Node → Bool) (l : List Node) : decide (idxW p l ≥ 0) = l.any p := by
  unfold idxW
  cases l.any p <;> simp
theorem index_any (t : Node) (A : Option Addr) (c : Nat) (w : World) (ok : Nat → Prop) (h : t.In w ok A c) (fn : FuncId) (hg : Goes fn) (p : Node → Bool)
    (hp : ∀ k ∈ t.kids, Tests fn #[] p w ok k) :
    Calls Tryd.prog 57 #[.slice A t.kids.length c, .func (.func fn) #[] #[]] w
      fun e w' => e = .returned (.int .i64 (idxW p t.kids)) ∧ Below w.heap.size w w' := by
  have H := Hd.mk h
  have HP := Hd.mk hp
  have hl := h.lenZ
  clear h hp
  have hgo : ∀ (args : Array Value) (w : World), (callFunc fn args).run Tryd.prog w = .ok (.enter fn args) w := hg
  clear hg
  go_enter Tryd.func57, Tryd.ntmps57
  go_wp2_with fail
  go_loopw [5,8] (fun v5 v8 W => ∃ j : Nat, j ≤ t.kids.length ∧ v8 = .int .i64 j ∧ Hd (∀ k ∈ t.kids.take j, p k = false) ∧ Below w.heap.size w W) (fun _ v8 _ => t.kids.length - (intOf v8).toNat)
  case atStart => exact ⟨0, Nat.zero_le _, rfl, ⟨by simp⟩, Below.refl _ _⟩
  case round =>
    obtain ⟨j, hj, rfl, HS, HB⟩ := hrel
    by_cases hlt : j < t.kids.length
    · obtain ⟨b, o, A1, c1, rfl, e0, e1, e2, e3, h4⟩ := (H.out.below HB).at_ j hlt
      have HC := Hd.mk (HP.out t.kids[j] (List.getElem_mem _) wr A1 c1 _ HB h4 rfl)
      cases hpj : p t.kids[j]
      · rw [hpj] at HC
        have HH := Hd.mk hpj
        clear hpj
        go_wp2_with (refine (HC.out).mono ?_; rintro e w' ⟨rfl, hb⟩)
        go_roundw
        case rel => exact ⟨j + 1, hlt, by go_num, ⟨all_take_succ hlt HS.out HH.out⟩, ext_trans HB hb⟩
        case measure => simp [intOf]; omega
      · rw [hpj] at HC
        have HH := Hd.mk hpj
        clear hpj
        go_wp2_with (refine (HC.out).mono ?_; rintro e w' ⟨rfl, hb⟩)
        go_ret
        exact ⟨ret_int (idxW_hit hlt HS.out HH.out), ext_trans HB hb⟩
    · have : j = t.kids.length := by omega
      subst this
      go_wp2_with fail
      go_ret
      exact ⟨ret_int (idxW_miss (by have := HS.out; rwa [List.take_length] at this)), HB⟩

theorem contains_any (t : Node) (A : Option Addr) (c : Nat) (w : World) (ok : Nat → Prop) (h : t.In w ok A c) (fn : FuncId) (hg : Goes fn) (p : Node → Bool)
    (hp : ∀ k ∈ t.kids, Tests fn #[] p w ok k) :
    Calls Tryd.prog 36 #[.slice A t.kids.length c, .func (.func fn) #[] #[]] w
      fun e w' => e = .returned (.bool (t.kids.any p)) ∧ Below w.heap.size w w' := by
  have HI := Hd.mk (index_any t A c w ok h fn hg p hp)
  have HX := Hd.mk (idxW_any p t.kids)
  clear h hp
  go_enter Tryd.func36, Tryd.ntmps36
  go_wp2_with (refine (HI.out).mono ?_; rintro e w' ⟨rfl, hb⟩)
  go_ret
  exact ⟨ret_bool (by rw [← HX.out]), hb⟩
end Go.Proofs.YtgjanglonccclaaDoor
