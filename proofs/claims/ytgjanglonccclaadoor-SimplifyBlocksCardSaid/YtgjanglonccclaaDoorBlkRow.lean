/- The row of SimplifyBlocks. -/
import Derived.Test.YtgjanglonccclaaDoorRows
import Derived.Test.YtgjanglonccclaaDoorRowL
import Derived.Test.YtgjanglonccclaaDoorReadP
import Derived.Test.YtgjanglonccclaaDoorBlkL
namespace Go.Proofs.YtgjanglonccclaaDoor
open Go.ChangeShapes Go.WideShapes Go.ChangeAt Go.RowKit
set_option linter.unusedVariables false
set_option linter.unusedSimpArgs false

theorem simplifyBlocks_good {W : World} (h : laidMetH Tryd.prog Rows.simplifyBlocksRow.laid W) : Good W := good_of_laid (by kernel_rfl) h
theorem simplifyBlocks_reads (os : Os) {H : Type} (enc : TypeId × Value → H) : ∃ (ds : List (DataW H)) (places : List MemPlace), DataW.whole enc Tryd.prog ((World.laidAll Tryd.prog os Rows.simplifyBlocksRow.laid).forCall (fun _ _ => 0) ⟨#[], #[prg0, node0], []⟩).memory Tryd.f7.params.toList Rows.simplifyBlocksSpec.vars false #[prg0, node0].toList 8 = some (ds, [], places) ∧ Rows.uptoSmall H (ds ++ []) = true :=
  ⟨[.agg [.nil, .nil, .agg [.lit (.int .u8 0), .lit (.int .i64 0), .lit (.string []), .nil]], .agg [.lit (.int .u8 0), .lit (.int .i64 0), .lit (.string []), .nil]], [], by kernel_rfl, by kernel_rfl⟩

set_option maxRecDepth 100000 in
theorem simplifyBlocks_lifted (os : Os) (started : os.Started) (H : Type) (enc : TypeId × Value → H) (F : Stop.Interp) :
    ReturnsInHanded {} Tryd.checked os 7 .any ((OpenSpec.ofChange Rows.simplifyBlocksSpec).preRow enc Tryd.prog Tryd.f7 Rows.simplifyBlocksRow.domain false Rows.simplifyBlocksRow.laid) (((OpenSpec.ofChange Rows.simplifyBlocksSpec).at F).post enc Tryd.prog Tryd.f7 false true false false) := by
  obtain ⟨ds0, places, hx, hsm⟩ := simplifyBlocks_reads os enc
  refine returnsInHanded_of_row (C := Tryd.checked) (s := OpenSpec.ofChange Rows.simplifyBlocksSpec) own46 started (by kernel_rfl) Tryd.func7
    (row_witness (enc := enc) (C := Tryd.checked) false (World.laidAll Tryd.prog os Rows.simplifyBlocksRow.laid) #[prg0, node0] (World.laidAll_os _ _ _) (World.shaped_of_ZipB (by kernel_rfl) (by kernel_rfl)) (by kernel_rfl)
      (OpenSpec.preRow_of_cond 8 hx (by kernel_rfl) (fun k hk => by cases hk) (by kernel_rfl) (by rw [MakeChecks.laidMetH_plain _ _ _ (by kernel_rfl)]; exact laidMet_laidAll _ (by kernel_rfl) (by kernel_rfl)))) ?_
  intro W base args ds gs before hval0 hW _ hcond hsz0 hL _ _
  have hval : ∀ (j : Nat) t v, Tryd.f7.params[j]? = some t → args[j]? = some v → Value.okWide Tryd.prog W .any base t v := hval0
  have hsz : (DataW.weightsEach Tryd.prog (Tryd.f7.params.toList ++ Rows.simplifyBlocksSpec.plain.varTypes Tryd.prog) (ds ++ gs)).all (· ≤ reachBytes) = true := hsz0
  clear hsz0
  have hW' := hW
  obtain ⟨p, q, hA0, hV, rfl, hfz, hnd⟩ := hW
  have hA : DataW.TrodAll enc Tryd.prog W 0 (fun _ => true) true Tryd.f7.params.toList args.toList ds p := hA0
  rw [Tryd.params7] at hA hval hsz
  obtain ⟨v0, v1, d0, d1, p0, p1, rfl, rfl, rfl, h0, h1⟩ := trodAll_two hA
  obtain ⟨rfl, rfl⟩ := trodVars_none hV
  clear hA0 hval0
  simp only [List.append_nil] at hW'
  have hlt : ∀ x ∈ p0 ++ p1, x.block < W.heap.size := fun x hx => by simpa using hW'.lt x hx
  have hw0 : ∀ y ∈ d0.weights Tryd.prog 38, y ≤ reachBytes := fun y hy => by
    have := List.all_eq_true.1 hsz y (by simp [DataW.weightsEach, hy])
    simpa using this
  have a0 : ∀ (W' : World), Below W.heap.size W W' → DataW.Trod enc Tryd.prog W' 0 (fun b => decide (b < W.heap.size)) true 38 v0 d0 p0 :=
    fun W' hn => Below.trod laidOut46 (by kernel_rfl) (of_decide_eq_true (by kernel_rfl)) h0 hn (fun x hx => hlt x (by simp [hx]))
  have hw1 : ∀ y ∈ d1.weights Tryd.prog 24, y ≤ reachBytes := fun y hy => by
    have := List.all_eq_true.1 hsz y (by simp [DataW.weightsEach, hy])
    simpa using this
  have a1 : ∀ (W' : World), Below W.heap.size W W' → DataW.Trod enc Tryd.prog W' 0 (fun b => decide (b < W.heap.size)) true 24 v1 d1 p1 :=
    fun W' hn => Below.trod laidOut46 (by kernel_rfl) (of_decide_eq_true (by kernel_rfl)) h1 hn (fun x hx => hlt x (by simp [hx]))
  obtain ⟨f0, hf0⟩ := h0
  obtain ⟨t0, g0, e0, in0, bk0, bp0⟩ := prg_of_trod enc W f0 _ _ hf0 hw0
  obtain rfl := agg6_of e0
  obtain ⟨f1, hf1⟩ := h1
  obtain ⟨t1, A1, c1, e1, in1, bk1⟩ := node_of_trod_bulk enc W f1 _ _ hf1 hw1
  obtain rfl := agg_of e1
  refine (blkLaw_any t0 g0 t1 A1 c1 W _ _ (simplifyBlocks_good hL) in0 in1).mono fun e W' ⟨he, hb⟩ => ?_
  subst he
  refine ⟨_, rfl, _, _, _, [], p0 ++ p1, [], hW', ?_, ?_, rfl, hb.frame _, fun h => by cases h⟩
  · exact trodAll_mk1 (shut_bool Tryd.underlying4 true)
  · exact trodAll_mk2 (a0 _ hb) (a1 _ hb)

theorem simplifyBlocks_holds : Rows.SimplifyBlocksSaid :=
  OpenClaim.holds_of_cond 7 Tryd.f7 rfl rfl rfl rfl rfl rfl rfl ⟨rfl, rfl, rfl, rfl, rfl⟩ rfl rfl rfl rfl rfl (by kernel_rfl) Tryd.func7 (by kernel_rfl)
    (of_decide_eq_true (by kernel_rfl)) (by unfold Func.isWrapper; rw [if_neg (of_decide_eq_false (by kernel_rfl))]; exact ⟨rfl, rfl⟩)
    (fun os started H enc _ F => by rw [OpenClaim.pre_eq_preRow]; exact simplifyBlocks_lifted os started H enc F)
#print axioms simplifyBlocks_holds
end Go.Proofs.YtgjanglonccclaaDoor
