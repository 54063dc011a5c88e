/- The law SimplifyBlocks returns true for every program and every node, whatever their size, and leaves them as they were. Conditions: the tables unicode.White_Space and strings.asciiSpace hold what the program's text lays (tied by the card). -/
import Derived.Test.YtgjanglonccclaaDoorBlkRow
import Derived.Test.YtgjanglonccclaaDoorCards
import Derived.Test.YtgjanglonccclaaDoorTie
import Derived.SevenTiedAt
namespace Go.Proofs.YtgjanglonccclaaDoor
open Go

theorem simplifyBlocks_card : Rows.SimplifyBlocksCardSaid :=
  Claim7.holds_tied_plain_at .later [] [.listed, .data] true Rows.simplifyBlocksCard.stood.harness Rows.simplifyBlocksCard.stood.looks
    simplifyBlocks_holds (fun _ h => by cases h) (by kernel_rfl) (fun _ h => by cases h) simplifyBlocks_row_tie rfl ⟨rfl, rfl⟩ (by kernel_rfl) rfl
    (fun f fn hf hfn => by
      obtain rfl : f = 7 := Option.some.inj ((show Tryd.prog.funcNamed "backstep/backsteplaw46.SimplifyBlocks" = some 7 by kernel_rfl).symm.trans hf) |>.symm
      obtain rfl : fn = Tryd.f7 := (Option.some.inj (Tryd.func7.symm.trans hfn)).symm
      exact ⟨by kernel_rfl, fun j t ht => by
        rw [Tryd.params7] at ht
        have hm : t ∈ [38, 24] := by simpa using Array.mem_of_getElem? ht
        have hall : ([38, 24].all fun u => !Tryd.prog.wantsStandIn u) = true := by kernel_rfl
        exact (show Tryd.prog.wantsStandIn t = false by simpa using List.all_eq_true.1 hall t hm)⟩)
    (by kernel_rfl)
#print axioms simplifyBlocks_card
end Go.Proofs.YtgjanglonccclaaDoor
