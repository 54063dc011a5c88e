/- Contracts of lexer.next and lexer.Name. -/
import Derived.Test.YtgjanglonccclaaDoorLex2
namespace Go.Proofs.YtgjanglonccclaaDoor
open Go.RowKit
set_option linter.unusedVariables false
set_option linter.unusedSimpArgs false

theorem goes_word : Goes 77 := goes_of Tryd.func77 (by kernel_rfl) rfl
theorem goes_line : Goes 80 := goes_of Tryd.func80 (by kernel_rfl) rfl
theorem goes_digit : Goes 78 := goes_of Tryd.func78 (by kernel_rfl) rfl
theorem goes_space : Goes 79 := goes_of Tryd.func79 (by kernel_rfl) rfl

/-- What next says of a string that begins with a letter. -/
theorem next_word (s : ByteArray) (hs : s.size ≤ 140737488355328) (h0 : 0 < s.size) (hl : letterB (s[0].toNat : Int) = true) (w : World) :
    Calls Tryd.prog 55 #[.string s] w fun e w' => e = .returned (.tuple #[.int .u8 1, .int .i64 (spanL wordB s.data.toList)]) ∧ w = w' := by
  have HL := Hd.mk (letter_any (s[0].toNat : Int) w)
  rw [hl] at HL
  have HS := Hd.mk (span_any s hs _ goes_word wordB word_any w)
  clear hl
  go_enter Tryd.func55, Tryd.ntmps55
  go_wp2_with (first | (go_at_call 75; refine (HL.out).mono ?_; rintro e w' ⟨rfl, rfl⟩) | (go_at_call 76; refine (HS.out).mono ?_; rintro e w' ⟨rfl, rfl⟩))
  go_ret2
  exact ⟨rfl, rfl⟩

def OtherToken (w : World) (e : Ending) (w' : World) : Prop := ∃ k n : Int, e = .returned (.tuple #[.int .u8 k, .int .i64 n]) ∧ (k == 1) = false ∧ Below w.heap.size w w'

/-- What next says of another string. -/
theorem next_other (s : ByteArray) (hs : s.size ≤ 140737488355328) (h0 : 0 < s.size) (hl : letterB (s[0].toNat : Int) = false) (w : World) (hw : Good w) :
    Calls Tryd.prog 55 #[.string s] w (OtherToken w) := by
  have HL := Hd.mk (letter_any (s[0].toNat : Int) w)
  rw [hl] at HL
  have HD := Hd.mk (digit_any (s[0].toNat : Int) w)
  have HP := Hd.mk (space_any (s[0].toNat : Int) w)
  have HSd := Hd.mk (span_any s hs _ goes_digit digitB digit_any w)
  have HSs := Hd.mk (span_any s hs _ goes_space spaceB space_any w)
  have HSl := Hd.mk (span_any s hs _ goes_line (fun c => c != 10) line_any w)
  have HG := Hd.mk (signs_any w hw)
  clear hl
  cases a1 : digitB (s[0].toNat : Int)
  · rw [a1] at HD
    clear a1
    cases a2 : spaceB (s[0].toNat : Int)
    · rw [a2] at HP
      clear a2
      cases a3 : ((s[0].toNat : Int) == 35)
      · have HZ := Hd.mk sg_nonempty
        go_enter Tryd.func55, Tryd.ntmps55
        go_wp2_with (first | (go_at_call 75; refine (HL.out).mono ?_; rintro e w' ⟨rfl, rfl⟩) | (go_at_call 78; refine (HD.out).mono ?_; rintro e w' ⟨rfl, rfl⟩) | (go_at_call 79; refine (HP.out).mono ?_; rintro e w' ⟨rfl, rfl⟩) | (go_at_call 81; refine (HG.out).mono ?_; rintro e w1 ⟨b, rfl, hc, hb⟩; have HC := Hd.mk hc; clear hc; have hlen : (sgBytes.length : Int) ≤ 1000 := by have := HZ.out; unfold sgBytes; omega))
        go_loopw [6, 31] (fun v6 v31 W => ∃ j : Nat, j ≤ sgBytes.length ∧ v31 = .int .i64 j ∧ w1 = W) (fun _ v31 _ => sgBytes.length - (intOf v31).toNat)
        case atStart => exact ⟨0, Nat.zero_le _, rfl, by trivial⟩
        case round =>
          obtain ⟨j, hj, rfl, rfl⟩ := hrel
          by_cases hlt : j < sgBytes.length
          · have hcell := HC.out j hlt
            have HH := Hd.mk (Tryd.strings_HasPrefix s ⟨sgBytes[j].toArray⟩ w1)
            cases hp : Lib.hasPrefix s.data.toList (⟨sgBytes[j].toArray⟩ : ByteArray).data.toList
            · rw [hp] at HH
              clear hp
              go_wp2_with (go_at_call 82; refine (HH.out).mono ?_; rintro e w' ⟨rfl, rfl⟩)
              go_roundw
              case rel => exact ⟨j + 1, hlt, by go_num, by trivial⟩
              case measure => simp [intOf]; omega
            · rw [hp] at HH
              clear hp
              go_wp2_with (go_at_call 82; refine (HH.out).mono ?_; rintro e w' ⟨rfl, rfl⟩)
              go_ret2
              exact ⟨3, _, rfl, rfl, hb⟩
          · have : j = sgBytes.length := by omega
            subst this
            go_wp2_with fail
            go_ret2
            exact ⟨0, 0, rfl, rfl, hb⟩
      · go_enter Tryd.func55, Tryd.ntmps55
        go_wp2_with (first | (go_at_call 75; refine (HL.out).mono ?_; rintro e w' ⟨rfl, rfl⟩) | (go_at_call 78; refine (HD.out).mono ?_; rintro e w' ⟨rfl, rfl⟩) | (go_at_call 79; refine (HP.out).mono ?_; rintro e w' ⟨rfl, rfl⟩) | (go_at_call 76; refine (HSl.out).mono ?_; rintro e w' ⟨rfl, rfl⟩))
        go_ret2
        exact ⟨5, _, rfl, rfl, Below.refl _ _⟩
    · rw [a2] at HP
      clear a2
      go_enter Tryd.func55, Tryd.ntmps55
      go_wp2_with (first | (go_at_call 75; refine (HL.out).mono ?_; rintro e w' ⟨rfl, rfl⟩) | (go_at_call 78; refine (HD.out).mono ?_; rintro e w' ⟨rfl, rfl⟩) | (go_at_call 79; refine (HP.out).mono ?_; rintro e w' ⟨rfl, rfl⟩) | (go_at_call 76; refine (HSs.out).mono ?_; rintro e w' ⟨rfl, rfl⟩))
      go_ret2
      exact ⟨4, _, rfl, rfl, Below.refl _ _⟩
  · rw [a1] at HD
    clear a1
    go_enter Tryd.func55, Tryd.ntmps55
    go_wp2_with (first | (go_at_call 75; refine (HL.out).mono ?_; rintro e w' ⟨rfl, rfl⟩) | (go_at_call 78; refine (HD.out).mono ?_; rintro e w' ⟨rfl, rfl⟩) | (go_at_call 76; refine (HSd.out).mono ?_; rintro e w' ⟨rfl, rfl⟩))
    go_ret2
    exact ⟨2, _, rfl, rfl, Below.refl _ _⟩

theorem nameB_size {s : ByteArray} (h : s.size = 0) : nameB s = false := by
  have : s.data.toList = [] := List.eq_nil_of_length_eq_zero (by rw [Array.length_toList]; exact h)
  simp [nameB, nameL, this]
theorem toList_cons {s : ByteArray} (h : 0 < s.size) : ∃ c cs, s.data.toList = c :: cs ∧ s[0] = c := by
  have hl : s.data.toList.length = s.size := by rw [Array.length_toList]; rfl
  cases hd : s.data.toList with
  | nil => rw [hd] at hl; simp at hl; omega
  | cons c cs =>
    refine ⟨c, cs, rfl, ?_⟩
    have h1 : s.data.toList[0]'(by omega) = s[0] := rfl
    rw [← h1]
    simp [hd]
theorem nameB_long {s : ByteArray} (h : 16 < s.size) : nameB s = false := by
  obtain ⟨c, cs, hd, _⟩ := toList_cons (s := s) (by omega)
  have hl : s.data.toList.length = s.size := by rw [Array.length_toList]; rfl
  rw [hd] at hl
  simp only [nameB, nameL, hd]
  rw [decide_eq_false (by omega)]; simp
theorem nameB_kw {s : ByteArray} (h : keywordB s = true) (h0 : 0 < s.size) : nameB s = false := by
  obtain ⟨c, cs, hd, _⟩ := toList_cons h0
  simp only [keywordB, hd] at h
  simp only [nameB, nameL, hd, h]; simp
theorem nameB_other {s : ByteArray} (h0 : 0 < s.size) (h : letterB (s[0].toNat : Int) = false) : nameB s = false := by
  obtain ⟨c, cs, hd, he⟩ := toList_cons h0
  rw [he] at h
  simp only [nameB, nameL, hd, h]; simp
theorem nameB_word {s : ByteArray} (h0 : 0 < s.size) (h16 : s.size ≤ 16) (hk : keywordB s = false) (h : letterB (s[0].toNat : Int) = true) : decide ((spanL wordB s.data.toList : Int) = (s.size : Int)) = nameB s := by
  have hl : s.data.toList.length = s.size := by rw [Array.length_toList]; rfl
  obtain ⟨c, cs, hd, he⟩ := toList_cons h0
  rw [he] at h
  have h1 := spanL_all wordB s.data.toList
  simp only [keywordB, hd] at hk
  have h2 : decide ((c :: cs).length ≤ 16) = true := by rw [← hd, hl]; simpa using h16
  simp only [nameB, nameL, hd, hk, h, h2, Bool.not_false, Bool.true_and]
  rw [← hd, ← h1, hl, Bool.eq_iff_iff]
  simp only [decide_eq_true_eq, beq_iff_eq]; omega

theorem name_any (s : ByteArray) (hs : s.size ≤ 140737488355328) (w : World) (hw : Good w) :
    Calls Tryd.prog 32 #[.string s] w fun e w' => e = .returned (.bool (nameB s)) ∧ Below w.heap.size w w' := by
  have hz : (s.size : Int) ≤ 140737488355328 := by omega
  by_cases h0 : s.size = 0
  · have HN := Hd.mk (nameB_size h0).symm
    have hz1 : ((s.size : Int) == 0) = true := by rw [h0]; rfl
    clear h0
    go_enter Tryd.func32, Tryd.ntmps32
    go_wp2_with fail
    go_ret
    exact ⟨ret_bool HN.out, Below.refl _ _⟩
  · have hz0 : ((s.size : Int) == 0) = false := by rw [beq_eq_false_iff_ne]; omega
    have hpos : 0 < s.size := by omega
    by_cases h16 : 16 < s.size
    · have HN := Hd.mk (nameB_long h16).symm
      have hz1 : decide ((16 : Int) < (s.size : Int)) = true := by simp; omega
      clear h0 h16
      go_enter Tryd.func32, Tryd.ntmps32
      go_wp2_with fail
      go_ret
      exact ⟨ret_bool HN.out, Below.refl _ _⟩
    · have hz1 : decide ((16 : Int) < (s.size : Int)) = false := by simp; omega
      have HK := Hd.mk (keyword_any s w hw)
      cases hk : keywordB s
      · rw [hk] at HK
        cases hl : letterB (s[0].toNat : Int)
        · have HN := Hd.mk (nameB_other hpos hl).symm
          have HX := Hd.mk (fun w1 (hb : Below w.heap.size w w1) => next_other s hs hpos hl w1 (hw.below hb))
          clear hk hl h0 h16
          go_enter Tryd.func32, Tryd.ntmps32
          go_wp2_with (first | (go_at_call 54; refine (HK.out).mono ?_; rintro e w1 ⟨rfl, hb⟩) | (go_at_call 55; refine (HX.out _ hb).mono ?_; rintro e w2 ⟨k, n, rfl, hkn, hb2⟩))
          go_ret
          exact ⟨ret_bool HN.out, ext_trans hb hb2⟩
        · have HN := Hd.mk (nameB_word hpos (by omega) hk hl)
          have HX := Hd.mk (fun w1 => next_word s hs hpos hl w1)
          have hsp : (spanL wordB s.data.toList : Int) ≤ 140737488355328 := by
            have := spanL_le wordB s.data.toList
            have hl : s.data.toList.length = s.size := by rw [Array.length_toList]; rfl
            omega
          clear hk hl h0 h16
          go_enter Tryd.func32, Tryd.ntmps32
          go_wp2_with (first | (go_at_call 54; refine (HK.out).mono ?_; rintro e w1 ⟨rfl, hb⟩) | (go_at_call 55; refine (HX.out _).mono ?_; rintro e w2 ⟨rfl, rfl⟩))
          go_ret
          refine ⟨ret_bool ?_, hb⟩
          have := HN.out
          rw [← this]
          first | rfl | (rw [Bool.eq_iff_iff]; simp)
      · rw [hk] at HK
        have HN := Hd.mk (nameB_kw hk hpos).symm
        clear hk h0 h16
        go_enter Tryd.func32, Tryd.ntmps32
        go_wp2_with (first | (go_at_call 54; refine (HK.out).mono ?_; rintro e w1 ⟨rfl, hb⟩))
        go_ret
        exact ⟨ret_bool HN.out, hb⟩
end Go.Proofs.YtgjanglonccclaaDoor
