/- Contracts of package lexer: letter, digit, space, span, keywords, Keyword, signs, next, Name. -/
import Derived.Test.YtgjanglonccclaaDoorBase
import Derived.Test.YtgjanglonccclaaDoorLexP
import Derived.Test.YtgjanglonccclaaDoorShelf
import Derived.Lib.SmallJoins
import Derived.Carry
import Derived.Maps.OwnOps
namespace Go.Proofs.YtgjanglonccclaaDoor
open Go.RowKit
set_option linter.unusedVariables false
set_option linter.unusedSimpArgs false

/-- The one variable of Go's library that the code reads holds what it was laid with. -/
def Good (w : World) : Prop := Lib.TabIs Tryd.prog w "strings.asciiSpace" .u8 Lib.asciiSpaceTab
theorem globalSpace : Tryd.prog.globalNamed "strings.asciiSpace" = some 0 := by kernel_rfl
theorem Good.block {w w' : World} (h : Good w) (hb : w'.heap[0]? = w.heap[0]?) : Good w' := by
  unfold Good Lib.TabIs World.var? at *
  rw [globalSpace] at h ⊢
  simp only [Option.bind_some] at h ⊢
  rw [hb]
  exact h
theorem Good.lt {w : World} (h : Good w) : 0 < w.heap.size := by
  unfold Good Lib.TabIs World.var? at h
  rw [globalSpace] at h
  simp only [Option.bind_some] at h
  rcases Nat.lt_or_ge 0 w.heap.size with h1 | h1
  · exact h1
  · rw [Array.getElem?_eq_none h1] at h; simp at h
theorem Good.below {w w' : World} (h : Good w) (hb : Below w.heap.size w w') : Good w' := h.block (hb.block _ h.lt)

theorem letter_any (c : Int) (w : World) : Calls Tryd.prog 75 #[.int .u8 c] w fun e w' => e = .returned (.bool (letterB c)) ∧ w = w' := by
  by_cases h : 97 ≤ c
  · have h1 := Hd.mk (show decide (c ≤ 122) = letterB c by simp [letterB, h])
    go_enter Tryd.func75, Tryd.ntmps75
    go_wp2
    go_ret
    exact ⟨ret_bool h1.out, rfl⟩
  · have h1 := Hd.mk (show false = letterB c by simp [letterB, h])
    go_enter Tryd.func75, Tryd.ntmps75
    go_wp2
    go_ret
    exact ⟨ret_bool h1.out, rfl⟩
theorem digit_any (c : Int) (w : World) : Calls Tryd.prog 78 #[.int .u8 c] w fun e w' => e = .returned (.bool (digitB c)) ∧ w = w' := by
  by_cases h : 48 ≤ c
  · have h1 := Hd.mk (show decide (c ≤ 57) = digitB c by simp [digitB, h])
    go_enter Tryd.func78, Tryd.ntmps78
    go_wp2
    go_ret
    exact ⟨ret_bool h1.out, rfl⟩
  · have h1 := Hd.mk (show false = digitB c by simp [digitB, h])
    go_enter Tryd.func78, Tryd.ntmps78
    go_wp2
    go_ret
    exact ⟨ret_bool h1.out, rfl⟩
theorem space_any (c : Int) (w : World) : Calls Tryd.prog 79 #[.int .u8 c] w fun e w' => e = .returned (.bool (spaceB c)) ∧ w = w' := by
  have h1 := Hd.mk (show (c == 32 || c == 9 || c == 13 || c == 10) = spaceB c from rfl)
  cases a1 : (c == 32)
  · cases a2 : (c == 9)
    · cases a3 : (c == 13)
      · go_enter Tryd.func79, Tryd.ntmps79
        go_wp2
        go_ret
        refine ⟨ret_bool (by rw [← h1.out, a1, a2, a3]; simp), rfl⟩
      · go_enter Tryd.func79, Tryd.ntmps79
        go_wp2
        go_ret
        refine ⟨ret_bool (by rw [← h1.out, a1, a2, a3]; simp), rfl⟩
    · go_enter Tryd.func79, Tryd.ntmps79
      go_wp2
      go_ret
      refine ⟨ret_bool (by rw [← h1.out, a1, a2]; simp), rfl⟩
  · go_enter Tryd.func79, Tryd.ntmps79
    go_wp2
    go_ret
    refine ⟨ret_bool (by rw [← h1.out, a1]; simp), rfl⟩
/-- the closure 'letter or digit' -/
theorem word_any (c : Int) (w : World) : Calls Tryd.prog 77 #[.int .u8 c] w fun e w' => e = .returned (.bool (wordB c)) ∧ w = w' := by
  have h1 := Hd.mk (show (letterB c || digitB c) = wordB c from rfl)
  have HL := Hd.mk (letter_any c w)
  have HD := Hd.mk (digit_any c w)
  cases a1 : letterB c
  · rw [a1] at HL
    go_enter Tryd.func77, Tryd.ntmps77
    go_wp2_with (first | (go_at_call 75; refine (HL.out).mono ?_; rintro e w' ⟨rfl, rfl⟩) | (go_at_call 78; refine (HD.out).mono ?_; rintro e w' ⟨rfl, rfl⟩))
    go_ret
    exact ⟨ret_bool (by rw [← h1.out, a1]; simp), rfl⟩
  · rw [a1] at HL
    go_enter Tryd.func77, Tryd.ntmps77
    go_wp2_with (first | (go_at_call 75; refine (HL.out).mono ?_; rintro e w' ⟨rfl, rfl⟩))
    go_ret
    exact ⟨ret_bool (by rw [← h1.out, a1]; simp), rfl⟩
/-- the closure 'no line end' -/
theorem line_any (c : Int) (w : World) : Calls Tryd.prog 80 #[.int .u8 c] w fun e w' => e = .returned (.bool (c != 10)) ∧ w = w' := by
  go_enter Tryd.func80, Tryd.ntmps80
  go_wp2
  go_ret
  exact ⟨rfl, rfl⟩
end Go.Proofs.YtgjanglonccclaaDoor
