/- The law SimplifyEmpties returns true for every node and leaves it as it was. Condition: what the arguments hold is of bulk at most 1048576. Conditions: the tables unicode.White_Space and strings.asciiSpace hold what the program's text lays (tied by the card). -/
import Derived.Test.YtgjanglonccclaaDoorEmpRow
import Derived.Test.YtgjanglonccclaaDoorCards
import Derived.Test.YtgjanglonccclaaDoorTie
import Derived.SevenTiedAt
namespace Go.Proofs.YtgjanglonccclaaDoor
open Go

theorem simplifyEmpties_card : Rows.SimplifyEmptiesUptoCardSaid :=
  Claim7.holds_tied_plain_at .later [] [.listed, .data] true Rows.simplifyEmptiesUptoCard.stood.harness Rows.simplifyEmptiesUptoCard.stood.looks
    simplifyEmpties_holds (fun _ h => by cases h) (by kernel_rfl) (fun _ h => by cases h) simplifyEmptiesUpto_row_tie rfl ⟨rfl, rfl⟩ (by kernel_rfl) rfl
    (fun f fn hf hfn => by
      obtain rfl : f = 5 := Option.some.inj ((show Tryd.prog.funcNamed "backstep/backsteplaw46.SimplifyEmpties" = some 5 by kernel_rfl).symm.trans hf) |>.symm
      obtain rfl : fn = Tryd.f5 := (Option.some.inj (Tryd.func5.symm.trans hfn)).symm
      exact ⟨by kernel_rfl, fun j t ht => by
        rw [Tryd.params5] at ht
        have hm : t ∈ [24] := by simpa using Array.mem_of_getElem? ht
        have hall : ([24].all fun u => !Tryd.prog.wantsStandIn u) = true := by kernel_rfl
        exact (show Tryd.prog.wantsStandIn t = false by simpa using List.all_eq_true.1 hall t hm)⟩)
    (by kernel_rfl)
#print axioms simplifyEmpties_card
end Go.Proofs.YtgjanglonccclaaDoor
