/- The law SimplifyCancels returns true for every two nodes, whatever their size, and leaves both as they were; conditions: the tables unicode.White_Space and strings.asciiSpace hold what the program's text lays (tied by the card). -/
import Derived.Test.YtgjanglonccclaaDoorCanRow
import Derived.Test.YtgjanglonccclaaDoorCards
import Derived.Test.YtgjanglonccclaaDoorTie
import Derived.SevenTiedAt
namespace Go.Proofs.YtgjanglonccclaaDoor
open Go

theorem simplifyCancels_card : Rows.SimplifyCancelsCardSaid :=
  Claim7.holds_tied_plain_at .later [] [.listed, .data] true Rows.simplifyCancelsCard.stood.harness Rows.simplifyCancelsCard.stood.looks
    simplifyCancels_holds (fun _ h => by cases h) (by kernel_rfl) (fun _ h => by cases h) simplifyCancels_row_tie rfl ⟨rfl, rfl⟩ (by kernel_rfl) rfl
    (fun f fn hf hfn => by
      obtain rfl : f = 3 := Option.some.inj ((show Tryd.prog.funcNamed "backstep/backsteplaw46.SimplifyCancels" = some 3 by kernel_rfl).symm.trans hf) |>.symm
      obtain rfl : fn = Tryd.f3 := (Option.some.inj (Tryd.func3.symm.trans hfn)).symm
      exact ⟨by kernel_rfl, fun j t ht => by
        rw [Tryd.params3] at ht
        have hm : t ∈ [24] := by simpa using Array.mem_of_getElem? ht
        have hall : ([24].all fun u => !Tryd.prog.wantsStandIn u) = true := by kernel_rfl
        exact (show Tryd.prog.wantsStandIn t = false by simpa using List.all_eq_true.1 hall t hm)⟩)
    (by kernel_rfl)
#print axioms simplifyCancels_card
end Go.Proofs.YtgjanglonccclaaDoor
