/- Contract of inverter.inverse. -/
import Derived.Test.YtgjanglonccclaaDoorBase
import Derived.Test.YtgjanglonccclaaDoorInvP
namespace Go.Proofs.YtgjanglonccclaaDoor
open Go.RowKit
set_option linter.unusedVariables false
set_option linter.unusedSimpArgs false

theorem pair_cells {w : World} {B : Nat} (h : w.heap[B]? = some (.cells #[.int .u8 40, .int .u8 41, .int .u8 44, .int .u8 45, .int .u8 46, .int .u8 47, .int .u8 48, .int .u8 49, .int .u8 50, .int .u8 51] 110)) (i : Nat) (hi : i < 5) :
    w.cell? ⟨B, i * 2, none⟩ = some (.int .u8 (pairAt i)) ∧ w.cell? ⟨B, i * 2 + 1, none⟩ = some (.int .u8 (pairAt i + 1)) := by
  have : i = 0 ∨ i = 1 ∨ i = 2 ∨ i = 3 ∨ i = 4 := by omega
  rcases this with rfl | rfl | rfl | rfl | rfl <;> exact ⟨cell_blk h _, cell_blk h _⟩

theorem inverse_any (k : Int) (w : World) : Calls Tryd.prog 84 #[.int .u8 k] w fun e w' => e = .returned (.int .u8 (invKind k)) ∧ Below w.heap.size w w' := by
  go_enter Tryd.func84, Tryd.ntmps84
  go_wp2_with fail
  go_loopw [5, 14] (fun v5 v14 W => ∃ j : Nat, j ≤ 5 ∧ v14 = .int .i64 j ∧ Hd (invFrom k (5 - j) j = invKind k) ∧ Hd (W.heap[w.heap.size]? = some (.cells #[.int .u8 40, .int .u8 41, .int .u8 44, .int .u8 45, .int .u8 46, .int .u8 47, .int .u8 48, .int .u8 49, .int .u8 50, .int .u8 51] 110)) ∧ Below w.heap.size w W) (fun _ v14 _ => 5 - (intOf v14).toNat)
  case atStart =>
    refine ⟨0, Nat.zero_le _, rfl, ⟨rfl⟩, ⟨(Go.MapKept.heap_alloc w _).1⟩, ext_alloc (Below.refl _ _) _⟩
  case round =>
    obtain ⟨j, hj, rfl, HS, HW, HB⟩ := hrel
    by_cases hlt : j < 5
    · obtain ⟨e0, e1⟩ := pair_cells HW.out j hlt
      have HF : Hd (invKind k = if k == pairAt j then pairAt j + 1 else if k == pairAt j + 1 then pairAt j else invFrom k (5 - (j + 1)) (j + 1)) := ⟨by
        rw [← HS.out, show 5 - j = (5 - (j + 1)) + 1 by omega]; rfl⟩
      cases a0 : (k == pairAt j)
      · cases a1 : (k == pairAt j + 1)
        · go_wp2_with fail
          go_roundw
          case rel =>
            refine ⟨j + 1, hlt, by go_num, ⟨by rw [HF.out, a0, a1]; simp⟩, ⟨?_⟩, ext_alloc HB _⟩
            rw [(Go.MapKept.heap_alloc _ _).2 _ (Array.getElem?_eq_some_iff.1 HW.out).1]; exact HW.out
          case measure => simp [intOf]; omega
        · go_wp2_with fail
          go_ret
          exact ⟨ret_int (by rw [HF.out, a0, a1]; simp), ext_alloc HB _⟩
      · go_wp2_with fail
        go_ret
        exact ⟨ret_int (by rw [HF.out, a0]; simp), ext_alloc HB _⟩
    · have : j = 5 := by omega
      subst this
      go_wp2_with fail
      go_ret
      exact ⟨ret_int (by rw [← HS.out]; rfl), HB⟩
end Go.Proofs.YtgjanglonccclaaDoor
