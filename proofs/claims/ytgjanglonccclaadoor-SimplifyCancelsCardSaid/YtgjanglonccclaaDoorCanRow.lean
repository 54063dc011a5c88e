/- The row of SimplifyCancels. -/
import Derived.Test.YtgjanglonccclaaDoorRows
import Derived.Test.YtgjanglonccclaaDoorRead
import Derived.Test.YtgjanglonccclaaDoorCanP
import Derived.ProofKit
import Derived.LaidLaws
import Derived.Lib.LaidTab
import Derived.Lay
import Derived.LaidSub
import Derived.MakeChecks
namespace Go.Proofs.YtgjanglonccclaaDoor
open Go.ChangeShapes Go.WideShapes Go.ChangeAt Go.RowKit
set_option linter.unusedVariables false
set_option linter.unusedSimpArgs false

def node0 : Value := .agg #[.int .u8 0, .int .i64 0, .string ⟨#[]⟩, .slice none 0 0]
theorem own46 : ownKnob Tryd.prog.godebug = none := by kernel_rfl
theorem laidOut46 : laidOutB Tryd.prog = true := by kernel_rfl
theorem agg_of {v a b c d : Value} (h : v.cells.toList = [a, b, c, d]) : v = .agg #[a, b, c, d] := by
  cases v <;> simp [Value.cells] at h
  rename_i cs
  congr 1
  apply Array.toList_inj.1
  simpa using h
theorem good_of_laid {W : World} (h : laidMetH Tryd.prog Rows.simplifyCancelsRow.laid W) : Good W := by
  have h1 := laidMetH.filter (fun x => x.1 == "strings.asciiSpace") h
  have e : Rows.simplifyCancelsRow.laid.filter (fun x => x.1 == "strings.asciiSpace") = [("strings.asciiSpace", Lib.tabData .u8 Lib.asciiSpaceTab)] := by kernel_rfl
  rw [e, MakeChecks.laidMetH_plain _ _ _ (by kernel_rfl)] at h1
  exact Lib.tabIs_of_head globalSpace (t := 114) (e := 5) (n := 256) (by kernel_rfl) Tryd.underlying114 Tryd.underlying5 (by kernel_rfl) (by kernel_rfl) h1

set_option maxRecDepth 100000 in
theorem can_lifted (os : Os) (started : os.Started) (H : Type) (enc : TypeId × Value → H) :
    ReturnsInHanded {} Tryd.checked os 3 .any (fun w args => (Rows.simplifyCancelsSpec.pre enc Tryd.prog Tryd.f3 [] false w args ∧ laidMetH Tryd.prog Rows.simplifyCancelsRow.laid w) ∧ sizedMet enc Tryd.prog Tryd.f3 (OpenSpec.ofChange Rows.simplifyCancelsSpec) false w args)
      (Rows.simplifyCancelsSpec.post enc Tryd.prog Tryd.f3 false true false false) := by
  refine returnsInHanded_of_change_and (C := Tryd.checked) (X := fun w _ => laidMetH Tryd.prog Rows.simplifyCancelsRow.laid w) (fun _ _ _ hh h => h.of_heap hh) own46 started (by kernel_rfl) Tryd.func3 
    (ChangeSpec.witness_shaped (enc := enc) (C := Tryd.checked) (os := os) (X := fun w _ => laidMetH Tryd.prog Rows.simplifyCancelsRow.laid w) false (World.laidAll Tryd.prog os Rows.simplifyCancelsRow.laid) #[node0, node0] 8 (World.laidAll_os _ _ _)
      (World.shaped_of_ZipB (by kernel_rfl) (by kernel_rfl)) (by kernel_rfl) (by kernel_rfl) (by kernel_rfl)
      (by rw [MakeChecks.laidMetH_plain _ _ _ (by kernel_rfl)]; exact laidMet_laidAll _ (by kernel_rfl) (by kernel_rfl))) ?_
  intro W base args ds gs before hval0 hW _ hsz0 hL _
  have hval : ∀ (j : Nat) t v, Tryd.f3.params[j]? = some t → args[j]? = some v → Value.okWide Tryd.prog W .any base t v := hval0
  have hsz : (DataW.weightsEach Tryd.prog (Tryd.f3.params.toList ++ Rows.simplifyCancelsSpec.plain.varTypes Tryd.prog) (ds ++ gs)).all (· ≤ reachBytes) = true := hsz0
  clear hsz0
  have hW' := hW
  obtain ⟨p, q, hA0, hV, rfl, hfz, hnd⟩ := hW
  have hA : DataW.TrodAll enc Tryd.prog W 0 (fun _ => true) true Tryd.f3.params.toList args.toList ds p := hA0
  rw [Tryd.params3] at hA hval hsz
  obtain ⟨v0, v1, d0, d1, p0, p1, rfl, rfl, rfl, h0, h1⟩ := trodAll_two hA
  obtain ⟨rfl, rfl⟩ := trodVars_none hV
  clear hA0 hval0
  simp only [List.append_nil] at hW'
  have hw0 : ∀ y ∈ d0.weights Tryd.prog 24, y ≤ reachBytes := fun y hy => by
    have := List.all_eq_true.1 hsz y (by simp [DataW.weightsEach, hy])
    simpa using this
  have hw1 : ∀ y ∈ d1.weights Tryd.prog 24, y ≤ reachBytes := fun y hy => by
    have := List.all_eq_true.1 hsz y (by simp [DataW.weightsEach, hy])
    simpa using this
  have hlt : ∀ x ∈ p0 ++ p1, x.block < W.heap.size := fun x hx => by simpa using hW'.lt x hx
  have a0 : ∀ (W' : World), Below W.heap.size W W' → DataW.Trod enc Tryd.prog W' 0 (fun b => decide (b < W.heap.size)) true 24 v0 d0 p0 :=
    fun W' hn => Below.trod laidOut46 (by kernel_rfl) (of_decide_eq_true (by kernel_rfl)) h0 hn (fun x hx => hlt x (by simp [hx]))
  have a1 : ∀ (W' : World), Below W.heap.size W W' → DataW.Trod enc Tryd.prog W' 0 (fun b => decide (b < W.heap.size)) true 24 v1 d1 p1 :=
    fun W' hn => Below.trod laidOut46 (by kernel_rfl) (of_decide_eq_true (by kernel_rfl)) h1 hn (fun x hx => hlt x (by simp [hx]))
  obtain ⟨f0, hf0⟩ := h0
  obtain ⟨f1, hf1⟩ := h1
  obtain ⟨t0, A0, c0, e0, in0⟩ := node_of_trod enc W f0 _ _ hf0 hw0
  obtain ⟨t1, A1, c1, e1, in1⟩ := node_of_trod enc W f1 _ _ hf1 hw1
  obtain rfl := agg_of e0
  obtain rfl := agg_of e1
  refine (canLaw_any t0 t1 (cancelsB_sym t0 t1) A0 A1 c0 c1 W _ _ (good_of_laid hL) in0 in1).mono fun e W' ⟨he, hb⟩ => ?_
  subst he
  refine ⟨_, rfl, _, _, _, [], p0 ++ p1, [], hW', ?_, ?_, rfl, hb.frame _, fun h => by cases h⟩
  · exact trodAll_mk1 (shut_bool Tryd.underlying4 true)
  · exact trodAll_mk2 (a0 _ hb) (a1 _ hb)

theorem simplifyCancels_holds : Rows.SimplifyCancelsSaid :=
  OpenClaim.holds_of_wide 3 Tryd.f3 rfl rfl rfl rfl rfl rfl rfl ⟨rfl, rfl, rfl, rfl, rfl⟩ rfl rfl rfl rfl rfl (by kernel_rfl) Tryd.func3 (by kernel_rfl)
    (of_decide_eq_true (by kernel_rfl)) (by unfold Func.isWrapper; rw [if_neg (of_decide_eq_false (by kernel_rfl))]; exact ⟨rfl, rfl⟩)
    (fun os started H enc _ => can_lifted os started H enc)
#print axioms simplifyCancels_holds
end Go.Proofs.YtgjanglonccclaaDoor
