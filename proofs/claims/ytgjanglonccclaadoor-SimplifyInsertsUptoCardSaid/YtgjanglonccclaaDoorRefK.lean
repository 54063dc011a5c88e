/- Contract of the reference's kind of the inverse. -/
import Derived.Test.YtgjanglonccclaaDoorRefEq
import Derived.Test.YtgjanglonccclaaDoorInvP3
namespace Go.Proofs.YtgjanglonccclaaDoor
open Go.RowKit
set_option linter.unusedVariables false
set_option linter.unusedSimpArgs false

def refKind (k : Int) : Int := if 40 ≤ k ∧ k ≤ 49 then invKind k else 0
theorem refKind_any (k : Int) (w : World) : Calls Tryd.prog 58 #[.int .u8 k] w fun e w' => e = .returned (.int .u8 (refKind k)) ∧ Below w.heap.size w w' := by
  by_cases h : 40 ≤ k ∧ k ≤ 49
  · have : k = 40 ∨ k = 41 ∨ k = 42 ∨ k = 43 ∨ k = 44 ∨ k = 45 ∨ k = 46 ∨ k = 47 ∨ k = 48 ∨ k = 49 := by omega
    clear h
    rcases this with rfl | rfl | rfl | rfl | rfl | rfl | rfl | rfl | rfl | rfl
    all_goals
      go_enter Tryd.func58, Tryd.ntmps58
      go_wp2_with fail
      go_ret
      exact ⟨ret_int (by simp [refKind, invKind_eq]), Below.refl _ _⟩
  · have q : ∀ m : Int, 40 ≤ m → m ≤ 49 → (k == m) = false := fun m h0 h1 => by
      rw [beq_eq_false_iff_ne]; omega
    have q0 := q 40 (by omega) (by omega)
    have q1 := q 41 (by omega) (by omega)
    have q2 := q 42 (by omega) (by omega)
    have q3 := q 43 (by omega) (by omega)
    have q4 := q 44 (by omega) (by omega)
    have q5 := q 45 (by omega) (by omega)
    have q6 := q 46 (by omega) (by omega)
    have q7 := q 47 (by omega) (by omega)
    have q8 := q 48 (by omega) (by omega)
    have q9 := q 49 (by omega) (by omega)
    have hr := Hd.mk (show refKind k = 0 by simp only [refKind, h, if_false])
    clear h q
    go_enter Tryd.func58, Tryd.ntmps58
    go_wp2_with fail
    go_ret
    exact ⟨ret_int (by rw [hr.out]), Below.refl _ _⟩
end Go.Proofs.YtgjanglonccclaaDoor
