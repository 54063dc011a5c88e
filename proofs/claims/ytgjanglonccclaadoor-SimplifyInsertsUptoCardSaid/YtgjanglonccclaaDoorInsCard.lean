/- The law SimplifyInserts returns true for every block, every statement and every place, and leaves them as they were. Condition: what the arguments hold is of bulk at most 1048576. Conditions: the tables unicode.White_Space and strings.asciiSpace hold what the program's text lays (tied by the card). -/
import Derived.Test.YtgjanglonccclaaDoorInsRow
import Derived.Test.YtgjanglonccclaaDoorCards
import Derived.Test.YtgjanglonccclaaDoorTie
import Derived.SevenTiedAt
namespace Go.Proofs.YtgjanglonccclaaDoor
open Go

theorem simplifyInserts_card : Rows.SimplifyInsertsUptoCardSaid :=
  Claim7.holds_tied_plain_at .later [] [.listed, .data] true Rows.simplifyInsertsUptoCard.stood.harness Rows.simplifyInsertsUptoCard.stood.looks
    simplifyInserts_holds (fun _ h => by cases h) (by kernel_rfl) (fun _ h => by cases h) simplifyInsertsUpto_row_tie rfl ⟨rfl, rfl⟩ (by kernel_rfl) rfl
    (fun f fn hf hfn => by
      obtain rfl : f = 6 := Option.some.inj ((show Tryd.prog.funcNamed "backstep/backsteplaw46.SimplifyInserts" = some 6 by kernel_rfl).symm.trans hf) |>.symm
      obtain rfl : fn = Tryd.f6 := (Option.some.inj (Tryd.func6.symm.trans hfn)).symm
      exact ⟨by kernel_rfl, fun j t ht => by
        rw [Tryd.params6] at ht
        have hm : t ∈ [24, 24, 5] := by simpa using Array.mem_of_getElem? ht
        have hall : ([24, 24, 5].all fun u => !Tryd.prog.wantsStandIn u) = true := by kernel_rfl
        exact (show Tryd.prog.wantsStandIn t = false by simpa using List.all_eq_true.1 hall t hm)⟩)
    (by kernel_rfl)
#print axioms simplifyInserts_card
end Go.Proofs.YtgjanglonccclaaDoor
