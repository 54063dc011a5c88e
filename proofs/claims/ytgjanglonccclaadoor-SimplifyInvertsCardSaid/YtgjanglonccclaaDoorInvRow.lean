/- The row of SimplifyInverts. -/
import Derived.Test.YtgjanglonccclaaDoorRows
import Derived.Test.YtgjanglonccclaaDoorRowL
import Derived.Test.YtgjanglonccclaaDoorInvL
namespace Go.Proofs.YtgjanglonccclaaDoor
open Go.ChangeShapes Go.WideShapes Go.ChangeAt Go.RowKit
set_option linter.unusedVariables false
set_option linter.unusedSimpArgs false

theorem simplifyInverts_good {W : World} (h : laidMetH Tryd.prog Rows.simplifyInvertsRow.laid W) : Good W := good_of_laid (by kernel_rfl) h

set_option maxRecDepth 100000 in
theorem simplifyInverts_lifted (os : Os) (started : os.Started) (H : Type) (enc : TypeId × Value → H) :
    ReturnsInHanded {} Tryd.checked os 4 .any (fun w args => (Rows.simplifyInvertsSpec.pre enc Tryd.prog Tryd.f4 [] false w args ∧ laidMetH Tryd.prog Rows.simplifyInvertsRow.laid w) ∧ sizedMet enc Tryd.prog Tryd.f4 (OpenSpec.ofChange Rows.simplifyInvertsSpec) false w args)
      (Rows.simplifyInvertsSpec.post enc Tryd.prog Tryd.f4 false true false false) := by
  refine returnsInHanded_of_change_and (C := Tryd.checked) (X := fun w _ => laidMetH Tryd.prog Rows.simplifyInvertsRow.laid w) (fun _ _ _ hh h => h.of_heap hh) own46 started (by kernel_rfl) Tryd.func4
    (ChangeSpec.witness_shaped (enc := enc) (C := Tryd.checked) (os := os) (X := fun w _ => laidMetH Tryd.prog Rows.simplifyInvertsRow.laid w) false (World.laidAll Tryd.prog os Rows.simplifyInvertsRow.laid) #[node0] 8 (World.laidAll_os _ _ _)
      (World.shaped_of_ZipB (by kernel_rfl) (by kernel_rfl)) (by kernel_rfl) (by kernel_rfl) (by kernel_rfl)
      (by rw [MakeChecks.laidMetH_plain _ _ _ (by kernel_rfl)]; exact laidMet_laidAll _ (by kernel_rfl) (by kernel_rfl))) ?_
  intro W base args ds gs before hval0 hW _ hsz0 hL _
  have hval : ∀ (j : Nat) t v, Tryd.f4.params[j]? = some t → args[j]? = some v → Value.okWide Tryd.prog W .any base t v := hval0
  have hsz : (DataW.weightsEach Tryd.prog (Tryd.f4.params.toList ++ Rows.simplifyInvertsSpec.plain.varTypes Tryd.prog) (ds ++ gs)).all (· ≤ reachBytes) = true := hsz0
  clear hsz0
  have hW' := hW
  obtain ⟨p, q, hA0, hV, rfl, hfz, hnd⟩ := hW
  have hA : DataW.TrodAll enc Tryd.prog W 0 (fun _ => true) true Tryd.f4.params.toList args.toList ds p := hA0
  rw [Tryd.params4] at hA hval hsz
  obtain ⟨v0, d0, rfl, rfl, h0⟩ := trodAll_one hA
  obtain ⟨rfl, rfl⟩ := trodVars_none hV
  clear hA0 hval0
  simp only [List.append_nil] at hW'
  have hlt : ∀ x ∈ p, x.block < W.heap.size := fun x hx => by simpa using hW'.lt x hx
  have hw0 : ∀ y ∈ d0.weights Tryd.prog 24, y ≤ reachBytes := fun y hy => by
    have := List.all_eq_true.1 hsz y (by simp [DataW.weightsEach, hy])
    simpa using this
  have a0 : ∀ (W' : World), Below W.heap.size W W' → DataW.Trod enc Tryd.prog W' 0 (fun b => decide (b < W.heap.size)) true 24 v0 d0 p :=
    fun W' hn => Below.trod laidOut46 (by kernel_rfl) (of_decide_eq_true (by kernel_rfl)) h0 hn (fun x hx => hlt x (by simp [hx]))
  obtain ⟨f0, hf0⟩ := h0
  obtain ⟨t0, A0, c0, e0, in0⟩ := node_of_trod enc W f0 _ _ hf0 hw0
  obtain rfl := agg_of e0
  refine (invLaw_any t0 A0 c0 W _ (simplifyInverts_good hL) in0).mono fun e W' ⟨he, hb⟩ => ?_
  subst he
  refine ⟨_, rfl, _, _, _, [], p, [], hW', ?_, ?_, rfl, hb.frame _, fun h => by cases h⟩
  · exact trodAll_mk1 (shut_bool Tryd.underlying4 true)
  · exact trodAll_mk1 (a0 _ hb)

theorem simplifyInverts_holds : Rows.SimplifyInvertsSaid :=
  OpenClaim.holds_of_wide 4 Tryd.f4 rfl rfl rfl rfl rfl rfl rfl ⟨rfl, rfl, rfl, rfl, rfl⟩ rfl rfl rfl rfl rfl (by kernel_rfl) Tryd.func4 (by kernel_rfl)
    (of_decide_eq_true (by kernel_rfl)) (by unfold Func.isWrapper; rw [if_neg (of_decide_eq_false (by kernel_rfl))]; exact ⟨rfl, rfl⟩)
    (fun os started H enc _ => simplifyInverts_lifted os started H enc)
#print axioms simplifyInverts_holds
end Go.Proofs.YtgjanglonccclaaDoor
